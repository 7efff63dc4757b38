/- Contracts of chapter 2: the three functions of reach. Conditions: none. -/
import Derived.Test.YtkomdfgffgkphaaGreatTr06

namespace Go.Tr
open Go Go.Proofs
set_option maxRecDepth 20000
set_option maxHeartbeats 8000000

theorem S15 (a b : List Int) (ha : a.length ≤ 1000000000) (hb : b.length ≤ 1000000000) : SP 15 [ints a, ints b] (vb (decide (a = b))) false := by
  refine sound (d := 2) tok2 mixed2 Tryz.func15 (by kernel_rfl) (by kernel_rfl) ?_
  conv => whnf
  refine ifB_bne (fun w1 => ?_) (fun w1 => ?_)
  · conv => whnf
    refine ⟨?_, nofun⟩
    show vb false = vb _
    rw [decide_eq_false]
    intro e; subst e; exact w1 rfl
  · have hab : a.length = b.length := by omega
    conv => whnf
    refine ⟨[], [0, 1, 5], fun st mq => ∃ (k : Nat), (k ≤ a.length) ∧ (∀ i, i < k → a.getD i 0 = b.getD i 0) ∧ st = ⟨[(0, ints a), (1, ints b), (5, i64 k)], ⟨[], [], none, 0⟩, []⟩ ∧ mq = a.length - k,
      ⟨_, _, ⟨0, by omega, fun i h => absurd h (Nat.not_lt_zero i), rfl, rfl⟩, ⟨⟨rfl, rfl, rfl, rfl⟩, trivial, trivial⟩⟩, ?_⟩
    rintro s0 m0 ⟨k, hk, h1, rfl, hmeas⟩
    conv => whnf
    conv => whnf
    refine ifB_dec (fun w2 => ?_) (fun w2 => ?_)
    · conv => whnf
      conv => whnf
      refine ⟨[], by kernel_rfl, ?_⟩
      conv => whnf
      conv => whnf
      refine ⟨⟨(by omega), (by omega)⟩, ?_⟩
      conv => whnf
      conv => whnf
      refine ⟨⟨(by omega), (by omega)⟩, ?_⟩
      conv => whnf
      conv => whnf
      refine ifB_bne (fun w3 => ?_) (fun w3 => ?_)
      · conv => whnf
        conv => whnf
        refine ⟨?_, nofun⟩
        have e : ¬ a.getD k 0 = b.getD k 0 := w3
        show vb false = vb _
        rw [decide_eq_false]
        intro h; subst h; exact e rfl
      · conv => whnf
        conv => whnf
        refine ⟨inK64 (by omega) (by omega), ?_⟩
        have e : a.getD k 0 = b.getD k 0 := w3
        conv => whnf
        conv => whnf
        refine ⟨_, _, ⟨⟨k + 1, by omega, fun i hi => (by rcases Nat.lt_or_ge i k with h | h; exact h1 i h; rw [show i = k by omega]; exact e), rfl, rfl⟩, by omega⟩, ⟨⟨rfl, rfl, rfl, rfl⟩, trivial, trivial⟩⟩
    · conv => whnf
      conv => whnf
      refine ⟨?_, nofun⟩
      have e : k = a.length := by omega
      subst e
      show vb true = vb _
      rw [decide_eq_true]
      apply List.ext_getElem hab
      intro i h2 h3
      have := h1 i h2
      simpa [List.getD_eq_getElem?_getD, h2, h3] using this

/-- The nodes that are reached from a node. -/
def reachB (N : Net) (k : Int) : List Bool := clo (opnU N) N.cs (marks N.ns.length [k])
theorem marks_len (n : Nat) (l : List Int) : (marks n l).length = n := by unfold marks; rw [foldl_set_len]; simp
theorem reachB_len (N : Net) (k : Int) : (reachB N k).length = N.ns.length := by unfold reachB; rw [clo_len, marks_len]
theorem S76_1 (N : Net) (k : Int) (h0 : 0 ≤ k) (h1 : k < N.ns.length) (hn : N.ns.length ≤ 1000) (hc : N.cs.length ≤ 1000) (hr : inR N.ns.length N.cs) (f : Nat → List AV) (hf : f 0 = [i64 k]) : SP 76 [netV N, .rslice 1 1 f, .func (.func 77) 1 [netV N]] (bools (reachB N k)) true :=
  (S76 N 77 N (opnU N) [k] hn hc hr (by simpa using ⟨h0, h1⟩) (by simp) (S77p N)).args rfl fun i y x hy hx => by
    match i, hy, hx with
    | 0, hy, hx => cases hy; cases hx; exact ave_agg2 (k := 4) (a := .rslice 4 N.ns.length _) (b := .rslice 6 N.cs.length _) ⟨rfl, rfl, fun _ _ => rfl⟩ ⟨rfl, rfl, fun _ _ => rfl⟩
    | 1, hy, hx => cases hy; cases hx; exact ⟨rfl, rfl, fun i hi => match i, hi with | 0, _ => hf⟩
    | 2, hy, hx => cases hy; cases hx; rfl

theorem ave_listE {k : Nat} {x : AV} {l : List Int} {e : Int} (h : AVE (k + 3) x (ints l)) : AVE (k + 4) (.tuple [x, i64 e]) (.tuple [ints l, i64 e]) := by
  refine ⟨rfl, fun i a b h1 h2 => ?_⟩
  match i, h1, h2 with
  | 0, h1, h2 => cases h1; cases h2; exact h
  | 1, h1, h2 => cases h1; cases h2; rfl
theorem ave_nilE (k : Nat) (e : Int) : AVE (k + 4) (.tuple [.eslice, i64 e]) (.tuple [ints [], i64 e]) := ave_listE (k := k) (show (0 : Nat) = 0 from rfl)

def conN (N : Net) (k : Int) : Int := if decide (0 ≤ k ∧ k ≤ (N.cs.length : Int) - 1) = true then 0 else 6
def fillE (N : Net) (k : Int) : Int := if firstOf [netE N, conN N k] = 0 then (if (N.cs.getD k.toNat cn0).valve then 0 else 12) else firstOf [netE N, conN N k]
theorem S23 (N : Net) (hN : N.In) (k : Int) : SP 23 [netV N, i64 k] (.tuple [ints (if fillE N k = 0 then whereF 0 (fillB N k.toNat) else []), i64 (fillE N k)]) false := by
  have hn := hN.cl
  have h87 := S26 N hN
  unfold fillE
  by_cases hE : firstOf [netE N, conN N k] = 0
  · have hz := firstOf_zero hE
    have hok := net_ok (hz _ (by simp : netE N ∈ _))
    have h1 := hok.n1
    have h2 := hok.c1
    have hk : 0 ≤ k ∧ k ≤ (N.cs.length : Int) - 1 := by
      have := hz (conN N k) (by simp)
      unfold conN at this
      split at this
      · exact of_decide_eq_true (by assumption)
      · cases this
    obtain ⟨i, rfl⟩ : ∃ i : Nat, k = i := ⟨k.toNat, by omega⟩
    have hE' : firstOf [netE N, if decide (0 ≤ (i : Int) ∧ (i : Int) ≤ (N.cs.length : Int) - 1) = true then 0 else 6] = 0 := hE
    have hi : i < N.cs.length := by omega
    rw [if_pos hE]
    cases hv : (N.cs.getD (i : Int).toNat cn0).valve with
    | false =>
      rw [if_neg nofun, if_neg (by decide)]
      refine sound (d := 2) tok2 mixed2 Tryz.func23 (by kernel_rfl) (by kernel_rfl) ?_
      conv => whnf
      refine .inl ⟨_, _, byX rfl (h87), ?_⟩
      conv => whnf
      refine ⟨inK64 (by omega) (by omega), ?_⟩
      conv => whnf
      refine .inl ⟨_, _, byX rfl (Sound1.pl (S43 _ _ _) rfl), ?_⟩
      conv => whnf
      refine .inl ⟨_, _, byX rfl (Sound1.pl (S33 _ _) rfl), ?_⟩
      conv => whnf
      refine .inl ⟨_, _, byX rfl (Sound1.pl (S31_2 _ _ _ ⟨rfl, rfl⟩) rfl), ?_⟩
      conv => whnf
      refine ifB_bne (fun w1 => ?_) (fun w1 => ?_)
      · (exfalso; omega)
      · conv => whnf
        refine ⟨⟨(by omega), (by omega)⟩, ?_⟩
        conv => whnf
        refine ifB_not ?_
        conv => whnf
        refine ifB_intro (fun w2 => ?_) (fun w2 => ?_)
        · exact absurd (hv.symm.trans w2) nofun
        · conv => whnf
          refine ⟨?_, nofun⟩
          exact ave_nilE 1 _
    | true =>
      rw [if_pos rfl, if_pos rfl]
      have h92a := S49 (setOpen N i false) (show N.ns.length ≤ 1000 by omega) (by rw [setOpen_len]; omega) (inR_setOpen hi hok.ends)
      have h92b := S49 (setOpen N i true) (show N.ns.length ≤ 1000 by omega) (by rw [setOpen_len]; omega) (inR_setOpen hi hok.ends)
      have h93a := S48 N i false hi (by omega)
      have h93b := S48 N i true hi (by omega)
      have hW1 := wetSO_len N i true
      have hW2 := wetSO_len N i false
      have hfl := fillB_len N i
      have h89 := S50 (fillB N i) (by rw [hfl]; omega)
      refine sound (d := 2) tok2 mixed2 Tryz.func23 (by kernel_rfl) (by kernel_rfl) ?_
      conv => whnf
      refine .inl ⟨_, _, byX rfl (h87), ?_⟩
      conv => whnf
      refine ⟨inK64 (by omega) (by omega), ?_⟩
      conv => whnf
      refine .inl ⟨_, _, byX rfl (Sound1.pl (S43 _ _ _) rfl), ?_⟩
      conv => whnf
      refine .inl ⟨_, _, byX rfl (Sound1.pl (S33 _ _) rfl), ?_⟩
      conv => whnf
      refine .inl ⟨_, _, byX rfl (Sound1.pl (S31_2 _ _ _ ⟨rfl, rfl⟩) rfl), ?_⟩
      conv => whnf
      refine ifB_bne (fun w1 => ?_) (fun w1 => ?_)
      · (exfalso; omega)
      · conv => whnf
        refine ⟨⟨(by omega), (by omega)⟩, ?_⟩
        conv => whnf
        refine ifB_not ?_
        conv => whnf
        refine ifB_intro (fun w2 => ?_) (fun w2 => ?_)
        · conv => whnf
          refine .inl ⟨_, _, byX rfl (h93a), ?_⟩
          conv => whnf
          refine .inl ⟨_, _, byX rfl (h92a), ?_⟩
          conv => whnf
          refine .inl ⟨_, _, byX rfl (h93b), ?_⟩
          conv => whnf
          refine .inl ⟨_, _, byX rfl (h92b), ?_⟩
          conv => whnf
          refine ⟨[], [8, 9, 46, 47], fun st mq => ∃ (j : Nat) (n : Nat) (y : List Bool) (F0 : Nat → List AV) (F1 : Nat → List AV) (F2 : Nat → List AV), (j ≤ N.cs.length) ∧ (n = N.cs.length) ∧ (y.length = N.cs.length) ∧ (∀ p, p < j → y.getD p false = (fillB N i).getD p false) ∧ (∀ p, j ≤ p → y.getD p false = (wetB (setOpen N i true)).getD p false) ∧ st = ⟨[(8, .oslice 3 0 0 (wetB (setOpen N i false)).length none), (9, .oslice 4 0 0 n none), (46, i64 n), (47, i64 j)], ⟨[⟨2, 1, F0, 0, false, true, false⟩, ⟨2, 1, F1, 0, false, true, false⟩, ⟨1, 2, F2, 0, false, true, false⟩, ⟨1, (wetB (setOpen N i false)).length, fun p => [vb ((wetB (setOpen N i false)).getD p false)], 0, false, true, false⟩, ⟨1, n, fun p => [vb (y.getD p false)], 0, false, true, false⟩], [], none, 0⟩, []⟩ ∧ mq = N.cs.length - j,
            ⟨_, _, ⟨0, _, wetB (setOpen N i true), _, _, _, by omega, hW1, hW1, fun j h => absurd h (Nat.not_lt_zero j), fun j _ => rfl, rfl, rfl⟩, ⟨⟨rfl, rfl, rfl, rfl⟩, ⟨⟨rfl, rfl, rfl, rfl, fun _ => rfl, fun _ _ => rfl⟩, ⟨⟨rfl, rfl, rfl, rfl, fun _ => rfl, fun _ _ => rfl⟩, ⟨⟨rfl, rfl, rfl, rfl, fun _ => rfl, fun _ _ => rfl⟩, ⟨⟨rfl, rfl, rfl, rfl, fun _ => rfl, fun _ _ => rfl⟩, ⟨⟨rfl, rfl, rfl, rfl, fun _ => rfl, fun _ _ => rfl⟩, trivial⟩⟩⟩⟩⟩, trivial⟩⟩, ?_⟩
          rintro s0 m0 ⟨j, n, y, F0, F1, F2, hj, hn1, hy, h3, h4, rfl, hmeas⟩
          by_cases hil : j < N.cs.length
          · have hF := fillB_getD N i j hil
            rw [← h4 j (Nat.le_refl j)] at hF
            conv => whnf
            conv => whnf
            refine ifB_dec (fun w3 => ?_) (fun w3 => ?_)
            · conv => whnf
              conv => whnf
              refine ⟨⟨(by omega), (by omega)⟩, ?_⟩
              conv => whnf
              conv => whnf
              refine ifB_intro (fun w4 => ?_) (fun w4 => ?_)
              · conv => whnf
                conv => whnf
                refine ⟨⟨(by omega), (by omega)⟩, ?_⟩
                conv => whnf
                conv => whnf
                refine ⟨⟨(by omega), (by omega)⟩, ?_⟩
                refine ⟨_, fun i _ => row1 _ _ i _ (by first | omega | (simp only [List.length_set]; omega) | (simp only [List.length_replicate]; omega) | (simp only [List.length_set, List.length_replicate]; omega)), ?_⟩
                conv => whnf
                conv => whnf
                refine ⟨inK64 (by omega) (by omega), ?_⟩
                have e : y.getD j false = true := by simpa using w4
                rw [e] at hF
                have hs := set_inv (v := !(wetB (setOpen N i false)).getD (0 + (j : Int).toNat) false) h3 (by omega) (by rw [hF]; simp)
                conv => whnf
                conv => whnf
                refine ⟨_, _, ⟨⟨j + 1, n, y.set (j : Int).toNat (!(wetB (setOpen N i false)).getD (0 + (j : Int).toNat) false), _, _, _, by omega, hn1, by simpa using hy, hs, fun p hp => (by rw [getD_set, if_neg (fun e => by have := e.1; simp at this; omega)]; exact h4 p (by omega)), rfl, rfl⟩, by omega⟩, ⟨⟨rfl, rfl, rfl, rfl⟩, ⟨⟨rfl, rfl, rfl, rfl, fun _ => rfl, fun _ _ => rfl⟩, ⟨⟨rfl, rfl, rfl, rfl, fun _ => rfl, fun _ _ => rfl⟩, ⟨⟨rfl, rfl, rfl, rfl, fun _ => rfl, fun _ _ => rfl⟩, ⟨⟨rfl, rfl, rfl, rfl, fun _ => rfl, fun _ _ => rfl⟩, ⟨⟨rfl, rfl, rfl, rfl, fun _ => rfl, fun _ _ => rfl⟩, trivial⟩⟩⟩⟩⟩, trivial⟩⟩
              · conv => whnf
                conv => whnf
                refine ⟨⟨(by omega), (by omega)⟩, ?_⟩
                refine ⟨_, fun i _ => row1 _ _ i _ (by first | omega | (simp only [List.length_set]; omega) | (simp only [List.length_replicate]; omega) | (simp only [List.length_set, List.length_replicate]; omega)), ?_⟩
                conv => whnf
                conv => whnf
                refine ⟨inK64 (by omega) (by omega), ?_⟩
                have e : y.getD j false = false := by simpa using w4
                rw [e] at hF
                have hs := set_inv (v := false) h3 (by omega) (by rw [hF]; rfl)
                conv => whnf
                conv => whnf
                refine ⟨_, _, ⟨⟨j + 1, n, y.set (j : Int).toNat false, _, _, _, by omega, hn1, by simpa using hy, by simpa using hs, fun p hp => (by rw [getD_set, if_neg (fun e => by have := e.1; simp at this; omega)]; exact h4 p (by omega)), rfl, rfl⟩, by omega⟩, ⟨⟨rfl, rfl, rfl, rfl⟩, ⟨⟨rfl, rfl, rfl, rfl, fun _ => rfl, fun _ _ => rfl⟩, ⟨⟨rfl, rfl, rfl, rfl, fun _ => rfl, fun _ _ => rfl⟩, ⟨⟨rfl, rfl, rfl, rfl, fun _ => rfl, fun _ _ => rfl⟩, ⟨⟨rfl, rfl, rfl, rfl, fun _ => rfl, fun _ _ => rfl⟩, ⟨⟨rfl, rfl, rfl, rfl, fun _ => rfl, fun _ _ => rfl⟩, trivial⟩⟩⟩⟩⟩, trivial⟩⟩
            · (exfalso; omega)
          · have e : j = N.cs.length := by omega
            subst e
            have e : y = fillB N i := ext_inv hy hfl h3
            subst e
            subst hn1
            rw [bools_n hfl] at h89
            conv => whnf
            conv => whnf
            refine ifB_dec (fun w3 => ?_) (fun w3 => ?_)
            · (exfalso; omega)
            · conv => whnf
              conv => whnf
              refine .inl ⟨_, _, byX rfl (h89), ?_⟩
              conv => whnf
              conv => whnf
              refine ⟨?_, nofun⟩
              exact ave_listE (k := 1) (ave_ints rfl fun _ _ => rfl)
        · exact absurd (hv.symm.trans w2) nofun
  · rw [if_neg hE, if_neg hE]
    have hE' : ¬ firstOf [netE N, if decide (0 ≤ k ∧ k ≤ (N.cs.length : Int) - 1) = true then 0 else 6] = 0 := hE
    refine sound (d := 2) tok2 mixed2 Tryz.func23 (by kernel_rfl) (by kernel_rfl) ?_
    conv => whnf
    refine .inl ⟨_, _, byX rfl (h87), ?_⟩
    conv => whnf
    refine ⟨inK64 (by omega) (by omega), ?_⟩
    conv => whnf
    refine .inl ⟨_, _, byX rfl (Sound1.pl (S43 _ _ _) rfl), ?_⟩
    conv => whnf
    refine .inl ⟨_, _, byX rfl (Sound1.pl (S33 _ _) rfl), ?_⟩
    conv => whnf
    refine .inl ⟨_, _, byX rfl (Sound1.pl (S31_2 _ _ _ ⟨rfl, rfl⟩) rfl), ?_⟩
    conv => whnf
    refine ifB_bne (fun w1 => ?_) (fun w1 => ?_)
    · conv => whnf
      refine ⟨?_, nofun⟩
      exact ave_nilE 1 _
    · (exfalso; omega)
end Go.Tr

/- Plain laws of chapter 2: how a tree grows; contracts of the searches. Conditions: none. -/
namespace Go.Tr
open Go Go.Proofs
set_option maxRecDepth 20000
set_option maxHeartbeats 8000000

/-- May a conduit bring a node into the tree? -/
def grows (m : List Bool) (c : Cn) : Bool := c.opn && (m.getD c.fr.toNat false != m.getD c.to.toNat false)
/-- The index of the first conduit for which something holds. -/
def fstC (p : Cn → Bool) : Nat → List Cn → Int
  | _, [] => -1
  | k, c :: r => if p c then k else fstC p (k + 1) r
theorem fstC_drop {p : Cn → Bool} {l : List Cn} {k : Nat} (h : k < l.length) : fstC p k (l.drop k) = if p (l.getD k cn0) then (k : Int) else fstC p (k + 1) (l.drop (k + 1)) := by
  rw [List.drop_eq_getElem_cons h, fstC]; simp [List.getD_eq_getElem?_getD, h]
theorem fstC_cases {p : Cn → Bool} : ∀ (l : List Cn) (k : Nat), (fstC p k l = -1 ∧ ∀ c ∈ l, p c = false) ∨ ∃ i, i < l.length ∧ fstC p k l = ((k + i : Nat) : Int) ∧ p (l.getD i cn0) = true ∧ ∀ j, j < i → p (l.getD j cn0) = false
  | [], k => .inl ⟨rfl, by simp⟩
  | c :: r, k => by
    rw [fstC]
    cases hp : p c with
    | true => exact .inr ⟨0, by simp, by simp, by simpa using hp, by simp⟩
    | false =>
      rw [if_neg (by decide)]
      rcases fstC_cases r (k + 1) with ⟨h1, h2⟩ | ⟨i, h1, h2, h3, h4⟩
      · exact .inl ⟨h1, fun x hx => by rcases List.mem_cons.1 hx with rfl | hx; exact hp; exact h2 x hx⟩
      · refine .inr ⟨i + 1, by simpa using h1, by rw [h2]; congr 1; omega, by simpa using h3, fun j hj => ?_⟩
        cases j with
        | zero => simpa using hp
        | succ j => simpa using h4 j (by omega)

/-- The node that a conduit brings in. -/
def newNode (m : List Bool) (c : Cn) : Int := if m.getD c.to.toNat false then c.fr else c.to
/-- The branches of the tree, with the nodes that are in it at the end. -/
def growF (cs : List Cn) : Nat → List Bool → List (Int × Int) → List Bool × List (Int × Int)
  | 0, m, b => (m, b)
  | n + 1, m, b => if fstC (grows m) 0 cs < 0 then (m, b) else growF cs n (m.set (newNode m (cs.getD (fstC (grows m) 0 cs).toNat cn0)).toNat true) (b ++ [(fstC (grows m) 0 cs, newNode m (cs.getD (fstC (grows m) 0 cs).toNat cn0))])

theorem newNode_out {m : List Bool} {c : Cn} (h : grows m c = true) : m.getD (newNode m c).toNat false = false := by
  unfold grows at h
  unfold newNode
  simp only [Bool.and_eq_true, bne_iff_ne, ne_eq] at h
  cases h1 : m.getD c.to.toNat false with
  | true =>
    rw [h1] at h
    simp only [if_true]
    cases h2 : m.getD c.fr.toNat false with
    | true => exact absurd h2 h.2
    | false => rfl
  | false => simpa using h1
theorem newNode_in {n : Nat} {cs : List Cn} (hr : inR n cs) {m : List Bool} {i : Nat} (hi : i < cs.length) : 0 ≤ newNode m (cs.getD i cn0) ∧ newNode m (cs.getD i cn0) < n := by
  have := hr (cs.getD i cn0) (by simp [List.getD_eq_getElem?_getD, hi])
  unfold newNode
  split <;> omega

/-- One step of growth. -/
theorem grow_step {n : Nat} {cs : List Cn} (hr : inR n cs) {m : List Bool} (hm : m.length = n) (h : ¬ fstC (grows m) 0 cs < 0) :
    ∃ i, i < cs.length ∧ fstC (grows m) 0 cs = (i : Int) ∧ grows m (cs.getD i cn0) = true ∧ 0 ≤ newNode m (cs.getD i cn0) ∧ newNode m (cs.getD i cn0) < n ∧ nF (m.set (newNode m (cs.getD i cn0)).toNat true) + 1 = nF m ∧
      ∀ (b : List (Int × Int)), growF cs (nF m) m b = growF cs (nF (m.set (newNode m (cs.getD i cn0)).toNat true)) (m.set (newNode m (cs.getD i cn0)).toNat true) (b ++ [((i : Int), newNode m (cs.getD i cn0))]) := by
  rcases fstC_cases (p := grows m) cs 0 with ⟨e, _⟩ | ⟨i, h1, h2, h3, h4⟩
  · rw [e] at h; omega
  · have h2' : fstC (grows m) 0 cs = (i : Int) := by rw [h2]; simp
    have hn := newNode_in hr (m := m) h1
    have hc := nF_set (newNode_out h3) (by omega)
    refine ⟨i, h1, h2', h3, hn.1, hn.2, hc, fun b => ?_⟩
    rw [← hc, growF, if_neg h, h2']
    rfl
theorem grow_end {cs : List Cn} {m : List Bool} (h : fstC (grows m) 0 cs < 0) (n : Nat) (b : List (Int × Int)) : growF cs n m b = (m, b) := by
  cases n with
  | zero => rfl
  | succ n => rw [growF, if_pos h]

/-- The tree of a net: who is in it, and its branches. -/
def treeF (N : Net) : List Bool × List (Int × Int) := growF N.cs (nF (lakesB N)) (lakesB N) []

theorem S57 (c : Cn) (m : List Bool) (n : Nat) (hm : m.length = n) (h1 : 0 ≤ c.fr ∧ c.fr < n) (h2 : 0 ≤ c.to ∧ c.to < n) : SP 57 [.agg (cnC c), .rptr [bools m]] (vb (grows m c)) false := by
  unfold grows
  subst hm
  refine sound (d := 2) tok2 mixed2 Tryz.func57 (by kernel_rfl) (by kernel_rfl) ?_
  conv => whnf
  refine ⟨[], by kernel_rfl, ?_⟩
  conv => whnf
  refine ifB_intro (fun w1 => ?_) (fun w1 => ?_)
  · conv => whnf
    refine ⟨⟨(by omega), (by omega)⟩, ?_⟩
    conv => whnf
    refine ⟨⟨(by omega), (by omega)⟩, ?_⟩
    conv => whnf
    refine ⟨?_, nofun⟩
    have e : c.opn = true := w1
    have e2 : vb (!(m.getD c.fr.toNat false == m.getD c.to.toNat false)) = vb (c.opn && (m.getD c.fr.toNat false != m.getD c.to.toNat false)) := by rw [e]; rfl
    exact e2
  · conv => whnf
    refine ⟨?_, nofun⟩
    have e : c.opn = false := w1
    show vb false = vb _
    rw [e]; rfl

theorem S56 (g : FuncId) (l : List Cn) (m : List Bool) (p : Cn → Bool) (hl : l.length ≤ 1000) (hp : ∀ c ∈ l, SP g [.agg (cnC c), .rptr [bools m]] (vb (p c)) true) : SP 56 [listA 6 cnC cn0 l, .func (.func g) 0 [.rptr [bools m]]] (i64 (fstC p 0 l)) false := by
  generalize hR : fstC p 0 l = R
  refine sound (d := 2) tok2 mixed2 Tryz.func56 (by kernel_rfl) (by kernel_rfl) ?_
  conv => whnf
  refine ⟨[], [0, 1, 7, 8], fun st mq => ∃ (k : Nat), (k ≤ l.length) ∧ (fstC p k (l.drop k) = R) ∧ st = ⟨[(0, listA 6 cnC cn0 l), (1, .func (.func g) 0 [.rptr [bools m]]), (7, i64 l.length), (8, i64 k)], ⟨[], [], none, 0⟩, []⟩ ∧ mq = l.length - k,
    ⟨_, _, ⟨0, by omega, hR, rfl, rfl⟩, ⟨⟨rfl, rfl, rfl, rfl⟩, trivial, trivial⟩⟩, ?_⟩
  rintro s0 m0 ⟨k, hk, h1, rfl, hmeas⟩
  by_cases hkl : k < l.length
  · rw [fstC_drop hkl] at h1
    have hq := hp (l.getD (k : Int).toNat cn0) (by simp [List.getD_eq_getElem?_getD, hkl])
    conv => whnf
    conv => whnf
    refine ifB_dec (fun w1 => ?_) (fun w1 => ?_)
    · conv => whnf
      conv => whnf
      refine ⟨⟨(by omega), (by omega)⟩, ?_⟩
      conv => whnf
      conv => whnf
      refine .inl ⟨_, _, byX rfl (hq), ?_⟩
      conv => whnf
      conv => whnf
      refine ifB_intro (fun w2 => ?_) (fun w2 => ?_)
      · conv => whnf
        conv => whnf
        refine ⟨?_, nofun⟩
        have e : p (l.getD k cn0) = true := w2
        rw [if_pos e] at h1
        show i64 _ = i64 _
        rw [← h1]
      · conv => whnf
        conv => whnf
        refine ⟨inK64 (by omega) (by omega), ?_⟩
        have e : p (l.getD k cn0) = false := w2
        rw [e] at h1
        conv => whnf
        conv => whnf
        refine ⟨_, _, ⟨⟨k + 1, by omega, h1, rfl, rfl⟩, by omega⟩, ⟨⟨rfl, rfl, rfl, rfl⟩, trivial, trivial⟩⟩
    · (exfalso; omega)
  · have e : k = l.length := by omega
    subst e
    rw [List.drop_length] at h1
    conv => whnf
    conv => whnf
    refine ifB_dec (fun w1 => ?_) (fun w1 => ?_)
    · (exfalso; omega)
    · conv => whnf
      conv => whnf
      refine ⟨?_, nofun⟩
      show i64 _ = i64 _
      rw [← h1]; rfl

/-- The index of a truth value. -/
def idxB (v : Bool) : Nat → List Bool → Int
  | _, [] => -1
  | k, b :: r => if v = b then k else idxB v (k + 1) r
theorem idxB_drop {v : Bool} {l : List Bool} {k : Nat} (h : k < l.length) : idxB v k (l.drop k) = if v = l.getD k false then (k : Int) else idxB v (k + 1) (l.drop (k + 1)) := by
  rw [List.drop_eq_getElem_cons h, idxB]; simp [List.getD_eq_getElem?_getD, h]
theorem idxB_has (v : Bool) : ∀ (l : List Bool) (k : Nat), decide (idxB v k l ≥ 0) = l.contains v
  | [], k => rfl
  | b :: r, k => by
    rw [idxB, List.contains_cons]
    by_cases h : v = b
    · subst h; simp
    · rw [if_neg h, idxB_has v r (k + 1)]
      cases hv : (v == b) with
      | true => exact absurd (eq_of_beq hv) h
      | false => rfl
theorem S86 (l : List Bool) (v : Bool) (hl : l.length ≤ 1000) : SP 86 [bools l, vb v] (i64 (idxB v 0 l)) false := by
  generalize hR : idxB v 0 l = R
  refine sound (d := 2) tok2 mixed2 Tryz.func86 (by kernel_rfl) (by kernel_rfl) ?_
  conv => whnf
  refine ⟨[], [0, 1, 7, 8], fun st mq => ∃ (k : Nat), (k ≤ l.length) ∧ (idxB v k (l.drop k) = R) ∧ st = ⟨[(0, bools l), (1, vb v), (7, i64 l.length), (8, i64 k)], ⟨[], [], none, 0⟩, []⟩ ∧ mq = l.length - k,
    ⟨_, _, ⟨0, by omega, hR, rfl, rfl⟩, ⟨⟨rfl, rfl, rfl, rfl⟩, trivial, trivial⟩⟩, ?_⟩
  rintro s0 m0 ⟨k, hk, h1, rfl, hmeas⟩
  by_cases hkl : k < l.length
  · rw [idxB_drop hkl] at h1
    conv => whnf
    conv => whnf
    refine ifB_dec (fun w1 => ?_) (fun w1 => ?_)
    · conv => whnf
      conv => whnf
      refine ⟨⟨(by omega), (by omega)⟩, ?_⟩
      conv => whnf
      conv => whnf
      refine ifB_beqB (fun w2 => ?_) (fun w2 => ?_)
      · conv => whnf
        conv => whnf
        refine ⟨?_, nofun⟩
        have e : v = l.getD k false := w2
        rw [if_pos e] at h1
        show i64 _ = i64 _
        rw [← h1]
      · conv => whnf
        conv => whnf
        refine ⟨inK64 (by omega) (by omega), ?_⟩
        have e : ¬ v = l.getD k false := w2
        rw [if_neg e] at h1
        conv => whnf
        conv => whnf
        refine ⟨_, _, ⟨⟨k + 1, by omega, h1, rfl, rfl⟩, by omega⟩, ⟨⟨rfl, rfl, rfl, rfl⟩, trivial, trivial⟩⟩
    · (exfalso; omega)
  · have e : k = l.length := by omega
    subst e
    rw [List.drop_length] at h1
    conv => whnf
    conv => whnf
    refine ifB_dec (fun w1 => ?_) (fun w1 => ?_)
    · (exfalso; omega)
    · conv => whnf
      conv => whnf
      refine ⟨?_, nofun⟩
      show i64 _ = i64 _
      rw [← h1]; rfl
theorem S58 (l : List Bool) (v : Bool) (hl : l.length ≤ 1000) : SP 58 [bools l, vb v] (vb (l.contains v)) false := by
  have h162 := S86 l v hl
  refine sound (d := 2) tok2 mixed2 Tryz.func58 (by kernel_rfl) (by kernel_rfl) ?_
  conv => whnf
  refine .inl ⟨_, _, byX rfl (Sound1.pl (h162) rfl), ?_⟩
  conv => whnf
  refine ⟨?_, nofun⟩
  show vb _ = vb _
  rw [idxB_has]

/-- Branches as rows; a tree as a value. -/
def brC (b : Int × Int) : List AV := [i64 b.1, i64 b.2]
def brA (l : List (Int × Int)) : AV := listA 2 brC (0, 0) l
def treeA (N : Net) (b : List (Int × Int)) (c : Int) : AV := .agg [listA 4 ndC nd0 N.ns, listA 6 cnC cn0 N.cs, brA b, i64 c]
theorem ave_tup2 {k : Nat} {a b a' b' : AV} (ha : AVE k a a') (hb : AVE k b b') : AVE (k + 1) (.tuple [a, b]) (.tuple [a', b']) := by
  refine ⟨rfl, fun i x y h1 h2 => ?_⟩
  match i, h1, h2 with
  | 0, h1, h2 => cases h1; cases h2; exact ha
  | 1, h1, h2 => cases h1; cases h2; exact hb
theorem ave_tup3 {k : Nat} {a b c a' b' c' : AV} (ha : AVE k a a') (hb : AVE k b b') (hc : AVE k c c') : AVE (k + 1) (.tuple [a, b, c]) (.tuple [a', b', c']) := by
  refine ⟨rfl, fun i x y h1 h2 => ?_⟩
  match i, h1, h2 with
  | 0, h1, h2 => cases h1; cases h2; exact ha
  | 1, h1, h2 => cases h1; cases h2; exact hb
  | 2, h1, h2 => cases h1; cases h2; exact hc
theorem ave_agg4 {k : Nat} {a b c d a' b' c' d' : AV} (ha : AVE k a a') (hb : AVE k b b') (hc : AVE k c c') (hd : AVE k d d') : AVE (k + 1) (.agg [a, b, c, d]) (.agg [a', b', c', d']) := by
  refine ⟨rfl, fun i x y h1 h2 => ?_⟩
  match i, h1, h2 with
  | 0, h1, h2 => cases h1; cases h2; exact ha
  | 1, h1, h2 => cases h1; cases h2; exact hb
  | 2, h1, h2 => cases h1; cases h2; exact hc
  | 3, h1, h2 => cases h1; cases h2; exact hd
theorem app_rowR {acc : List (Int × Int)} {n : Nat} (hn : acc.length = n) (x : Int × Int) (i : Nat) (h : i < n + 1) : brC ((acc ++ [x]).getD i (0, 0)) = if i < n then brC (acc.getD (0 + i) (0, 0)) else List.take 2 (List.drop ((i - n) * 2) (brC x)) := by
  subst hn
  rw [Nat.zero_add]
  by_cases hi : i < acc.length
  · rw [if_pos hi]; simp [List.getD_eq_getElem?_getD, hi, List.getElem?_append_left hi]
  · have : i = acc.length := by omega
    subst this
    rw [if_neg hi]; simp [List.getD_eq_getElem?_getD, brC]

theorem S27 (N : Net) (hn : N.ns.length ≤ 1000) (hc : N.cs.length ≤ 1000) (hr : inR N.ns.length N.cs) : SP 27 [netV N] (.tuple [treeA N (treeF N).2 (-1), i64 (if (treeF N).1.contains false then 14 else 0)]) false := by
  have h135 := S55 N hn
  have hw : ∀ x ∈ whereF 0 (lakesB N), 0 ≤ x ∧ x < N.ns.length := fun x hx => by
    have := whereF_mem hx
    rw [lakesB_len] at this
    omega
  have hwl := whereF_len (lakesB N) 0
  rw [lakesB_len] at hwl
  have hm := marks_where (lakesB N)
  rw [lakesB_len] at hm
  generalize hR : treeF N = R
  unfold treeF at hR
  refine sound (d := 2) tok2 mixed2 Tryz.func27 (by kernel_rfl) (by kernel_rfl) ?_
  conv => whnf
  refine ⟨⟨(by omega), ⟨(by omega), ⟨(by omega), (by show _ * ((1 : Nat) : Int) ≤ _; omega)⟩⟩⟩, ?_⟩
  conv => whnf
  refine .inl ⟨_, _, byX rfl (h135), ?_⟩
  conv => whnf
  refine ⟨[], [1, 2, 4, 5, 19, 20, 21], fun st mq => ∃ (k : Nat) (x : List Bool), (k ≤ (whereF 0 (lakesB N)).length) ∧ (x.length = N.ns.length) ∧ (((whereF 0 (lakesB N)).drop k).foldl (fun m k => m.set k.toNat true) x = lakesB N) ∧ st = ⟨[(1, .optr 0 0 0 0), (2, .optr 1 0 0 0), (4, .optr 2 0 0 0), (5, .optr 4 0 0 0), (19, ints (whereF 0 (lakesB N))), (20, i64 (whereF 0 (lakesB N)).length), (21, i64 k)], ⟨[netBlk N, ⟨4, 1, fun _ => [.eslice, .eslice, .eslice, i64 0], 0, false, true, true⟩, ⟨4, 1, fun _ => [listA 4 ndC nd0 N.ns, listA 6 cnC cn0 N.cs, .eslice, i64 (-1)], 0, false, true, true⟩, ⟨1, N.ns.length, fun i => [vb (x.getD i false)], 0, false, true, false⟩, ⟨1, 1, fun _ => [.oslice 3 0 0 N.ns.length (some N.ns.length)], 0, false, false, true⟩], [], none, 0⟩, []⟩ ∧ mq = (whereF 0 (lakesB N)).length - k,
    ⟨_, _, ⟨0, List.replicate N.ns.length false, by omega, by simp, hm, rfl, rfl⟩, ⟨⟨rfl, rfl, rfl, rfl⟩, ⟨⟨rfl, rfl, rfl, rfl, fun _ => rfl, fun _ _ => rfl⟩, ⟨⟨rfl, rfl, rfl, rfl, fun _ => rfl, fun _ _ => rfl⟩, ⟨⟨rfl, rfl, rfl, rfl, fun _ => rfl, fun _ _ => rfl⟩, ⟨⟨rfl, rfl, rfl, rfl, fun _ => rfl, fun i _ => rep_row _ i⟩, ⟨⟨rfl, rfl, rfl, rfl, nofun, fun _ _ => rfl⟩, trivial⟩⟩⟩⟩⟩, trivial⟩⟩, ?_⟩
  rintro s0 m0 ⟨k, x, hk, hx, h1, rfl, hmeas⟩
  by_cases hkl : k < (whereF 0 (lakesB N)).length
  · have hq := hw ((whereF 0 (lakesB N)).getD (k : Int).toNat 0) (by simp [List.getD_eq_getElem?_getD, hkl])
    have e := List.drop_eq_getElem_cons (l := whereF 0 (lakesB N)) (i := k) hkl
    have e2 : (whereF 0 (lakesB N)).getD (k : Int).toNat 0 = (whereF 0 (lakesB N))[k] := by simp [List.getD_eq_getElem?_getD, hkl]
    rw [e, List.foldl_cons, ← e2] at h1
    conv => whnf
    conv => whnf
    refine ifB_dec (fun w1 => ?_) (fun w1 => ?_)
    · conv => whnf
      conv => whnf
      refine ⟨⟨(by omega), (by omega)⟩, ?_⟩
      conv => whnf
      conv => whnf
      refine ⟨⟨(by omega), (by omega)⟩, ?_⟩
      refine ⟨_, fun i _ => row1 _ _ i _ (by first | omega | (simp only [List.length_set]; omega) | (simp only [List.length_replicate]; omega) | (simp only [List.length_set, List.length_replicate]; omega)), ?_⟩
      conv => whnf
      conv => whnf
      refine ⟨inK64 (by omega) (by omega), ?_⟩
      conv => whnf
      conv => whnf
      refine ⟨_, _, ⟨⟨k + 1, _, by omega, by (rw [List.length_set]; exact hx), h1, rfl, rfl⟩, by omega⟩, ⟨⟨rfl, rfl, rfl, rfl⟩, ⟨⟨rfl, rfl, rfl, rfl, fun _ => rfl, fun _ _ => rfl⟩, ⟨⟨rfl, rfl, rfl, rfl, fun _ => rfl, fun _ _ => rfl⟩, ⟨⟨rfl, rfl, rfl, rfl, fun _ => rfl, fun _ _ => rfl⟩, ⟨⟨rfl, rfl, rfl, rfl, fun _ => rfl, fun _ _ => rfl⟩, ⟨⟨rfl, rfl, rfl, rfl, nofun, fun _ _ => rfl⟩, trivial⟩⟩⟩⟩⟩, trivial⟩⟩
    · (exfalso; omega)
  · have e : k = (whereF 0 (lakesB N)).length := by omega
    subst e
    rw [List.drop_length, List.foldl_nil] at h1
    subst h1
    conv => whnf
    conv => whnf
    refine ifB_dec (fun w1 => ?_) (fun w1 => ?_)
    · (exfalso; omega)
    · clear hk hkl hmeas w1
      have hF := nF_le (lakesB N)
      conv => whnf
      conv => whnf
      refine ⟨[.cell 2 2 2], [1, 2, 4, 5], fun st mq => ∃ (x : List Bool) (n : Nat) (b : List (Int × Int)), (x.length = N.ns.length) ∧ (b.length = n) ∧ (n + nF x ≤ N.ns.length) ∧ (growF N.cs (nF x) x b = R) ∧ st = ⟨[(1, .optr 0 0 0 0), (2, .optr 1 0 0 0), (4, .optr 2 0 0 0), (5, .optr 4 0 0 0)], ⟨[netBlk N, ⟨4, 1, fun _ => [.eslice, .eslice, .eslice, i64 0], 0, false, true, true⟩, ⟨4, 1, fun _ => [listA 4 ndC nd0 N.ns, listA 6 cnC cn0 N.cs, .oslice 5 0 0 n none, i64 (-1)], 0, false, false, true⟩, ⟨1, N.ns.length, fun i => [vb (x.getD i false)], 0, false, true, false⟩, ⟨1, 1, fun _ => [.oslice 3 0 0 N.ns.length (some N.ns.length)], 0, false, false, true⟩, ⟨2, n, fun i => brC (b.getD i (0, 0)), 0, false, true, false⟩], [], none, 0⟩, []⟩ ∧ mq = nF x,
        ⟨_, _, ⟨lakesB N, 0, [], hx, rfl, by omega, hR, rfl, rfl⟩, ⟨⟨rfl, rfl, rfl, rfl⟩, ⟨⟨rfl, rfl, rfl, rfl, fun _ => rfl, fun _ _ => rfl⟩, ⟨⟨rfl, rfl, rfl, rfl, fun _ => rfl, fun _ _ => rfl⟩, ⟨⟨rfl, rfl, rfl, rfl, nofun, fun _ _ => rfl⟩, ⟨⟨rfl, rfl, rfl, rfl, fun _ => rfl, fun _ _ => rfl⟩, ⟨⟨rfl, rfl, rfl, rfl, nofun, fun _ _ => rfl⟩, ⟨⟨rfl, rfl, rfl, rfl, fun _ => rfl, fun i h => absurd h (Nat.not_lt_zero i)⟩, trivial⟩⟩⟩⟩⟩⟩, trivial⟩⟩, ?_⟩
      rintro s0 m0 ⟨x, n, b, hx, hb, hn1, h1, rfl, hmeas⟩
      have h158 := S56 57 N.cs x (grows x) hc (fun c hcm => (S57 c x N.ns.length hx (by have := hr c hcm; omega) (by have := hr c hcm; omega)).pl rfl)
      have h160 := S58 x false (by omega)
      rw [bools_n hx] at h158 h160
      by_cases hlt : fstC (grows x) 0 N.cs < 0
      · rw [grow_end hlt] at h1
        subst h1
        conv => whnf
        conv => whnf
        conv => whnf
        refine .inl ⟨_, _, byX rfl (Sound1.pl (h158) rfl), ?_⟩
        conv => whnf
        conv => whnf
        conv => whnf
        refine ifB_dec (fun w1 => ?_) (fun w1 => ?_)
        · conv => whnf
          conv => whnf
          conv => whnf
          refine ⟨[], by kernel_rfl, ?_⟩
          conv => whnf
          conv => whnf
          conv => whnf
          refine .inl ⟨_, _, byX rfl (Sound1.pl (h160) rfl), ?_⟩
          conv => whnf
          conv => whnf
          conv => whnf
          refine .inl ⟨_, _, byX rfl (Sound1.pl (S33 _ _) rfl), ?_⟩
          conv => whnf
          conv => whnf
          conv => whnf
          refine ⟨?_, nofun⟩
          refine ave_tup2 (k := 4) (ave_agg4 (k := 3) (a := .rslice 4 N.ns.length _) (b := .rslice 6 N.cs.length _) (c := .rslice 2 n _) (d := i64 (-1)) ⟨rfl, rfl, fun _ _ => rfl⟩ ⟨rfl, rfl, fun _ _ => rfl⟩ ⟨rfl, hb.symm, fun _ _ => rfl⟩ rfl) ?_
          show i64 (if (!x.contains false) = true then 0 else 14) = i64 (if x.contains false = true then 14 else 0)
          cases x.contains false <;> rfl
        · (exfalso; omega)
      · obtain ⟨i, hi, e1, e2, e3, e4, e5, e6⟩ := grow_step hr hx hlt
        rw [e1] at h158
        rw [e6] at h1
        clear e6
        unfold newNode at e3 e4 e5 h1
        have hq := hr (N.cs.getD (i : Int).toNat cn0) (by simp [List.getD_eq_getElem?_getD, hi])
        conv => whnf
        conv => whnf
        conv => whnf
        refine .inl ⟨_, _, byX rfl (Sound1.pl (h158) rfl), ?_⟩
        conv => whnf
        conv => whnf
        conv => whnf
        refine ⟨⟨(by omega), (by omega)⟩, ?_⟩
        conv => whnf
        conv => whnf
        conv => whnf
        refine ⟨⟨(by omega), (by omega)⟩, ?_⟩
        conv => whnf
        conv => whnf
        conv => whnf
        refine ifB_intro (fun w1 => ?_) (fun w1 => ?_)
        · conv => whnf
          conv => whnf
          conv => whnf
          refine ⟨⟨(by omega), (by omega)⟩, ?_⟩
          refine ⟨_, fun i _ => row1 _ _ i _ (by first | omega | (simp only [List.length_set]; omega) | (simp only [List.length_replicate]; omega) | (simp only [List.length_set, List.length_replicate]; omega)), ?_⟩
          conv => whnf
          conv => whnf
          conv => whnf
          refine ⟨(by show _ * (16 + 1) ≤ _; omega), ?_⟩
          have e : x.getD (N.cs.getD i cn0).to.toNat false = true := by simpa using w1
          rw [if_pos e] at e3 e4 e5 h1
          conv => whnf
          conv => whnf
          conv => whnf
          refine ⟨_, _, ⟨⟨x.set (N.cs.getD (i : Int).toNat cn0).fr.toNat true, n + 1, b ++ [((i : Int), (N.cs.getD (i : Int).toNat cn0).fr)], by simpa using hx, by simpa using hb, (by show n + 1 + nF (x.set (N.cs.getD i cn0).fr.toNat true) ≤ _; omega), h1, rfl, rfl⟩, (by show nF (x.set (N.cs.getD i cn0).fr.toNat true) < _; omega)⟩, ⟨⟨rfl, rfl, rfl, rfl⟩, ⟨⟨rfl, rfl, rfl, rfl, fun _ => rfl, fun _ _ => rfl⟩, ⟨⟨rfl, rfl, rfl, rfl, fun _ => rfl, fun _ _ => rfl⟩, ⟨⟨rfl, rfl, rfl, rfl, nofun, fun _ _ => rfl⟩, ⟨⟨rfl, rfl, rfl, rfl, fun _ => rfl, fun _ _ => rfl⟩, ⟨⟨rfl, rfl, rfl, rfl, nofun, fun _ _ => rfl⟩, ⟨⟨rfl, rfl, rfl, rfl, fun _ => rfl, fun j h => app_rowR hb _ j h⟩, trivial⟩⟩⟩⟩⟩⟩, trivial⟩⟩
        · conv => whnf
          conv => whnf
          conv => whnf
          refine ⟨⟨(by omega), (by omega)⟩, ?_⟩
          refine ⟨_, fun i _ => row1 _ _ i _ (by first | omega | (simp only [List.length_set]; omega) | (simp only [List.length_replicate]; omega) | (simp only [List.length_set, List.length_replicate]; omega)), ?_⟩
          conv => whnf
          conv => whnf
          conv => whnf
          refine ⟨(by show _ * (16 + 1) ≤ _; omega), ?_⟩
          have e : ¬ x.getD (N.cs.getD i cn0).to.toNat false = true := by simpa using w1
          rw [if_neg e] at e3 e4 e5 h1
          conv => whnf
          conv => whnf
          conv => whnf
          refine ⟨_, _, ⟨⟨x.set (N.cs.getD (i : Int).toNat cn0).to.toNat true, n + 1, b ++ [((i : Int), (N.cs.getD (i : Int).toNat cn0).to)], by simpa using hx, by simpa using hb, (by show n + 1 + nF (x.set (N.cs.getD i cn0).to.toNat true) ≤ _; omega), h1, rfl, rfl⟩, (by show nF (x.set (N.cs.getD i cn0).to.toNat true) < _; omega)⟩, ⟨⟨rfl, rfl, rfl, rfl⟩, ⟨⟨rfl, rfl, rfl, rfl, fun _ => rfl, fun _ _ => rfl⟩, ⟨⟨rfl, rfl, rfl, rfl, fun _ => rfl, fun _ _ => rfl⟩, ⟨⟨rfl, rfl, rfl, rfl, nofun, fun _ _ => rfl⟩, ⟨⟨rfl, rfl, rfl, rfl, fun _ => rfl, fun _ _ => rfl⟩, ⟨⟨rfl, rfl, rfl, rfl, nofun, fun _ _ => rfl⟩, ⟨⟨rfl, rfl, rfl, rfl, fun _ => rfl, fun j h => app_rowR hb _ j h⟩, trivial⟩⟩⟩⟩⟩⟩, trivial⟩⟩
end Go.Tr

/- Contracts of chapter 2: the tree of the reference; the closing conduit. Conditions: none. -/
namespace Go.Tr
open Go Go.Proofs
set_option maxRecDepth 20000
set_option maxHeartbeats 8000000

theorem count_take_succ {l : List Bool} {k : Nat} (h : k < l.length) : nF (l.take (k + 1)) = nF (l.take k) + (if l.getD k false then 0 else 1) := by
  have e : l.getD k false = l[k] := by simp [List.getD_eq_getElem?_getD, h]
  unfold nF
  rw [List.take_succ_eq_append_getElem h, List.count_append, e]
  cases l[k] <;> simp

theorem app_rowM1 {acc : List (Int × Int)} {n : Nat} (hn : acc.length = n) (x : Int × Int) (i : Nat) (h : i < n + 1) : [i64 (((acc ++ [x]).map (·.1)).getD i 0)] = if i < n then [i64 ((acc.map (·.1)).getD (0 + i) 0)] else List.take 1 (List.drop ((i - n) * 1) [i64 x.1]) := by
  rw [List.map_append]
  exact app_row (by simpa using hn) x.1 i h
theorem app_rowM2 {acc : List (Int × Int)} {n : Nat} (hn : acc.length = n) (x : Int × Int) (i : Nat) (h : i < n + 1) : [i64 (((acc ++ [x]).map (·.2)).getD i 0)] = if i < n then [i64 ((acc.map (·.2)).getD (0 + i) 0)] else List.take 1 (List.drop ((i - n) * 1) [i64 x.2]) := by
  rw [List.map_append]
  exact app_row (by simpa using hn) x.2 i h
/-- The reference's search, from an index on. -/
theorem S13 (N : Net) (hn : N.ns.length ≤ 1000) (hc : N.cs.length ≤ 1000) (hr : inR N.ns.length N.cs) : SP 13 [netV N] (.tuple [ints ((treeF N).2.map (·.1)), ints ((treeF N).2.map (·.2)), vb (decide ((treeF N).2.length = nF (lakesB N)))]) false := by
  have hl := lakesB_len N
  generalize hR : treeF N = R
  unfold treeF at hR
  refine sound (d := 2) tok2 mixed2 Tryz.func13 (by kernel_rfl) (by kernel_rfl) ?_
  conv => whnf
  refine ⟨⟨(by omega), ⟨(by omega), ⟨(by omega), (by show _ * ((1 : Nat) : Int) ≤ _; omega)⟩⟩⟩, ?_⟩
  conv => whnf
  refine ⟨[], [1, 5, 6, 7], fun st mq => ∃ (k : Nat) (x : List Bool) (c : Nat), (k ≤ N.ns.length) ∧ (x.length = N.ns.length) ∧ (∀ i, i < k → x.getD i false = (lakesB N).getD i false) ∧ (c = nF ((lakesB N).take k)) ∧ (c ≤ k) ∧ st = ⟨[(1, .optr 0 0 0 0), (5, .oslice 1 0 0 N.ns.length (some N.ns.length)), (6, i64 c), (7, i64 k)], ⟨[netBlk N, ⟨1, N.ns.length, fun i => [vb (x.getD i false)], 0, false, true, false⟩], [], none, 0⟩, []⟩ ∧ mq = N.ns.length - k,
    ⟨_, _, ⟨0, List.replicate N.ns.length false, 0, by omega, by simp, fun i h => absurd h (Nat.not_lt_zero i), rfl, by omega, rfl, rfl⟩, ⟨⟨rfl, rfl, rfl, rfl⟩, ⟨⟨rfl, rfl, rfl, rfl, fun _ => rfl, fun _ _ => rfl⟩, ⟨⟨rfl, rfl, rfl, rfl, fun _ => rfl, fun i _ => rep_row _ i⟩, trivial⟩⟩, trivial⟩⟩, ?_⟩
  rintro s0 m0 ⟨k, x, c, hk, hx, h1, h2, h3, rfl, hmeas⟩
  by_cases hkl : k < N.ns.length
  · have hg := lakesB_getD N k hkl
    have hct := count_take_succ (l := lakesB N) (k := k) (by omega)
    rw [hg] at hct
    have hs := set_inv (v := (N.ns.getD (k : Int).toNat nd0).lake) h1 (by omega) hg.symm
    have hgs : (x.set (k : Int).toNat (N.ns.getD (k : Int).toNat nd0).lake).getD (0 + (k : Int).toNat) false = (N.ns.getD k nd0).lake := by
      rw [getD_set, if_pos ⟨by simp, by simp; omega⟩]; rfl
    conv => whnf
    conv => whnf
    refine ifB_dec (fun w1 => ?_) (fun w1 => ?_)
    · conv => whnf
      conv => whnf
      refine ⟨⟨(by omega), (by omega)⟩, ?_⟩
      conv => whnf
      conv => whnf
      refine ⟨⟨(by omega), (by omega)⟩, ?_⟩
      refine ⟨_, fun i _ => row1 _ _ i _ (by first | omega | (simp only [List.length_set]; omega) | (simp only [List.length_replicate]; omega) | (simp only [List.length_set, List.length_replicate]; omega)), ?_⟩
      conv => whnf
      conv => whnf
      refine ⟨⟨(by omega), (by omega)⟩, ?_⟩
      conv => whnf
      conv => whnf
      refine ifB_not ?_
      conv => whnf
      conv => whnf
      refine ifB_intro (fun w2 => ?_) (fun w2 => ?_)
      · conv => whnf
        conv => whnf
        refine ⟨inK64 (by omega) (by omega), ?_⟩
        have e : (N.ns.getD k nd0).lake = true := by rw [← hgs]; exact w2
        rw [e] at hct
        conv => whnf
        conv => whnf
        refine ⟨_, _, ⟨⟨k + 1, _, c, by omega, by simpa using hx, hs, by simpa [h2] using hct.symm, by omega, rfl, rfl⟩, by omega⟩, ⟨⟨rfl, rfl, rfl, rfl⟩, ⟨⟨rfl, rfl, rfl, rfl, fun _ => rfl, fun _ _ => rfl⟩, ⟨⟨rfl, rfl, rfl, rfl, fun _ => rfl, fun _ _ => rfl⟩, trivial⟩⟩, trivial⟩⟩
      · conv => whnf
        conv => whnf
        refine ⟨inK64 (by omega) (by omega), ?_⟩
        conv => whnf
        conv => whnf
        refine ⟨inK64 (by omega) (by omega), ?_⟩
        have e : (N.ns.getD k nd0).lake = false := by rw [← hgs]; exact w2
        rw [e] at hct
        conv => whnf
        conv => whnf
        refine ⟨_, _, ⟨⟨k + 1, _, c + 1, by omega, by simpa using hx, hs, by simpa [h2] using hct.symm, by omega, rfl, rfl⟩, by omega⟩, ⟨⟨rfl, rfl, rfl, rfl⟩, ⟨⟨rfl, rfl, rfl, rfl, fun _ => rfl, fun _ _ => rfl⟩, ⟨⟨rfl, rfl, rfl, rfl, fun _ => rfl, fun _ _ => rfl⟩, trivial⟩⟩, trivial⟩⟩
    · (exfalso; omega)
  · have e : k = N.ns.length := by omega
    subst e
    have e : x = lakesB N := ext_inv hx hl h1
    subst e
    rw [← hl, List.take_length] at h2
    subst h2
    have hF := nF_le (lakesB N)
    conv => whnf
    conv => whnf
    refine ifB_dec (fun w1 => ?_) (fun w1 => ?_)
    · (exfalso; omega)
    · clear h1 hk hmeas hkl w1
      conv => whnf
      conv => whnf
      refine ⟨[.slot 8 1, .slot 9 1], [1, 5, 6, 8, 9, 10], fun st mq => ∃ (x : List Bool) (n : Nat) (b : List (Int × Int)) (mo : Bool), (x.length = N.ns.length) ∧ (b.length = n) ∧ (n + nF x ≤ N.ns.length) ∧ (n + nF x = nF (lakesB N)) ∧ (growF N.cs (nF x) x b = R) ∧ (mo = false → fstC (grows x) 0 N.cs < 0) ∧ st = ⟨[(1, .optr 0 0 0 0), (5, .oslice 1 0 0 N.ns.length (some N.ns.length)), (6, i64 (nF (lakesB N) : Nat)), (8, .oslice 2 0 0 n none), (9, .oslice 3 0 0 n none), (10, vb mo)], ⟨[netBlk N, ⟨1, N.ns.length, fun i => [vb (x.getD i false)], 0, false, true, false⟩, ⟨1, n, fun i => [i64 ((b.map (·.1)).getD i 0)], 0, false, true, false⟩, ⟨1, n, fun i => [i64 ((b.map (·.2)).getD i 0)], 0, false, true, false⟩], [], none, 0⟩, []⟩ ∧ mq = nF x + mo.toNat,
        ⟨_, _, ⟨lakesB N, 0, [], true, hx, rfl, by omega, by omega, hR, nofun, rfl, rfl⟩, ⟨⟨rfl, rfl, rfl, rfl⟩, ⟨⟨rfl, rfl, rfl, rfl, fun _ => rfl, fun _ _ => rfl⟩, ⟨⟨rfl, rfl, rfl, rfl, fun _ => rfl, fun _ _ => rfl⟩, ⟨⟨rfl, rfl, rfl, rfl, fun _ => rfl, fun i h => absurd h (Nat.not_lt_zero i)⟩, ⟨⟨rfl, rfl, rfl, rfl, fun _ => rfl, fun i h => absurd h (Nat.not_lt_zero i)⟩, trivial⟩⟩⟩⟩, trivial⟩⟩, ?_⟩
      rintro s0 m0 ⟨x, n, b, mo, hx, hb, hn1, hn2, h1, hm, rfl, hmeas⟩
      cases mo with
      | false =>
        have hlt := hm rfl
        rw [grow_end hlt] at h1
        subst h1
        conv => whnf
        conv => whnf
        conv => whnf
        refine ⟨?_, nofun⟩
        refine ave_tup3 (k := 4) (a := .rslice 1 n _) (b := .rslice 1 n _) ⟨rfl, by simpa using hb.symm, fun _ _ => rfl⟩ ⟨rfl, by simpa using hb.symm, fun _ _ => rfl⟩ ?_
        show vb _ = vb _
        have e : ((n : Int) == (nF (lakesB N) : Int)) = decide (b.length = nF (lakesB N)) := by
          rw [hb, Bool.eq_iff_iff]
          simp only [beq_iff_eq, decide_eq_true_eq]
          omega
        rw [e]
      | true =>
        conv => whnf
        conv => whnf
        conv => whnf
        refine ⟨[], [1, 5, 6, 8, 9, 10, 11], fun st mq => ∃ (k : Nat) (y : List Bool) (p : Nat) (d : List (Int × Int)) (c : Bool), (k ≤ N.cs.length) ∧ (y.length = N.ns.length) ∧ (d.length = p) ∧ (p + nF y ≤ N.ns.length) ∧ (p + nF y = nF (lakesB N)) ∧ (growF N.cs (nF y) y d = R) ∧ (c = false → y = x ∧ fstC (grows x) 0 N.cs = fstC (grows x) k (N.cs.drop k)) ∧ (c = true → nF y < nF x) ∧ st = ⟨[(1, .optr 0 0 0 0), (5, .oslice 1 0 0 N.ns.length (some N.ns.length)), (6, i64 (nF (lakesB N) : Nat)), (8, .oslice 2 0 0 p none), (9, .oslice 3 0 0 p none), (10, vb c), (11, i64 k)], ⟨[netBlk N, ⟨1, N.ns.length, fun i => [vb (y.getD i false)], 0, false, true, false⟩, ⟨1, p, fun i => [i64 ((d.map (·.1)).getD i 0)], 0, false, true, false⟩, ⟨1, p, fun i => [i64 ((d.map (·.2)).getD i 0)], 0, false, true, false⟩], [], none, 0⟩, []⟩ ∧ mq = N.cs.length - k,
          ⟨_, _, ⟨0, x, n, b, false, by omega, hx, hb, hn1, hn2, h1, fun _ => ⟨rfl, rfl⟩, nofun, rfl, rfl⟩, ⟨⟨rfl, rfl, rfl, rfl⟩, ⟨⟨rfl, rfl, rfl, rfl, fun _ => rfl, fun _ _ => rfl⟩, ⟨⟨rfl, rfl, rfl, rfl, fun _ => rfl, fun _ _ => rfl⟩, ⟨⟨rfl, rfl, rfl, rfl, fun _ => rfl, fun _ _ => rfl⟩, ⟨⟨rfl, rfl, rfl, rfl, fun _ => rfl, fun _ _ => rfl⟩, trivial⟩⟩⟩⟩, trivial⟩⟩, ?_⟩
        rintro s0 m0 ⟨k, y, p, d, c, hk, hy, hd, hp1, hp2, g1, g2, g3, rfl, hmeas⟩
        cases c with
        | true =>
          have g3' := g3 rfl
          have t1 : true.toNat = 1 := rfl
          conv => whnf
          conv => whnf
          conv => whnf
          conv => whnf
          refine ifB_dec (fun w1 => ?_) (fun w1 => ?_)
          · conv => whnf
            conv => whnf
            conv => whnf
            conv => whnf
            refine ⟨_, _, ⟨⟨y, p, d, true, hy, hd, hp1, hp2, g1, nofun, rfl, rfl⟩, by omega⟩, ⟨⟨rfl, rfl, rfl, rfl⟩, ⟨⟨rfl, rfl, rfl, rfl, fun _ => rfl, fun _ _ => rfl⟩, ⟨⟨rfl, rfl, rfl, rfl, fun _ => rfl, fun _ _ => rfl⟩, ⟨⟨rfl, rfl, rfl, rfl, fun _ => rfl, fun _ _ => rfl⟩, ⟨⟨rfl, rfl, rfl, rfl, fun _ => rfl, fun _ _ => rfl⟩, trivial⟩⟩⟩⟩, trivial⟩⟩
          · conv => whnf
            conv => whnf
            conv => whnf
            conv => whnf
            refine ⟨_, _, ⟨⟨y, p, d, true, hy, hd, hp1, hp2, g1, nofun, rfl, rfl⟩, by omega⟩, ⟨⟨rfl, rfl, rfl, rfl⟩, ⟨⟨rfl, rfl, rfl, rfl, fun _ => rfl, fun _ _ => rfl⟩, ⟨⟨rfl, rfl, rfl, rfl, fun _ => rfl, fun _ _ => rfl⟩, ⟨⟨rfl, rfl, rfl, rfl, fun _ => rfl, fun _ _ => rfl⟩, ⟨⟨rfl, rfl, rfl, rfl, fun _ => rfl, fun _ _ => rfl⟩, trivial⟩⟩⟩⟩, trivial⟩⟩
        | false =>
          obtain ⟨rfl, g2'⟩ := g2 rfl
          by_cases hkl : k < N.cs.length
          · have hq := hr (N.cs.getD (k : Int).toNat cn0) (by simp [List.getD_eq_getElem?_getD, hkl])
            rw [fstC_drop hkl] at g2'
            have hgs : ∀ b, (N.cs.getD (k : Int).toNat cn0).opn = true → ¬ y.getD (0 + (N.cs.getD (k : Int).toNat cn0).fr.toNat) false = y.getD (0 + (N.cs.getD (k : Int).toNat cn0).to.toNat) false →
                0 ≤ newNode y (N.cs.getD k cn0) ∧ newNode y (N.cs.getD k cn0) < N.ns.length ∧ nF (y.set (newNode y (N.cs.getD k cn0)).toNat true) + 1 = nF y ∧ growF N.cs (nF y) y b = growF N.cs (nF (y.set (newNode y (N.cs.getD k cn0)).toNat true)) (y.set (newNode y (N.cs.getD k cn0)).toNat true) (b ++ [((k : Int), newNode y (N.cs.getD k cn0))]) := fun b h1 h2 => by
              have hg : grows y (N.cs.getD k cn0) = true := by
                unfold grows
                rw [Bool.and_eq_true, bne_iff_ne]
                exact ⟨h1, by simpa using h2⟩
              rw [if_pos hg] at g2'
              obtain ⟨i, hi, e1, e2, e3, e4, e5, e6⟩ := grow_step hr hy (by omega)
              have : i = k := by omega
              subst this
              exact ⟨e3, e4, e5, e6 b⟩
            conv => whnf
            conv => whnf
            conv => whnf
            conv => whnf
            refine ifB_dec (fun w1 => ?_) (fun w1 => ?_)
            · conv => whnf
              conv => whnf
              conv => whnf
              conv => whnf
              refine ⟨⟨(by omega), (by omega)⟩, ?_⟩
              conv => whnf
              conv => whnf
              conv => whnf
              conv => whnf
              refine ⟨[], by kernel_rfl, ?_⟩
              conv => whnf
              conv => whnf
              conv => whnf
              conv => whnf
              refine ifB_not ?_
              conv => whnf
              conv => whnf
              conv => whnf
              conv => whnf
              refine ifB_intro (fun w2 => ?_) (fun w2 => ?_)
              · conv => whnf
                conv => whnf
                conv => whnf
                conv => whnf
                refine ⟨⟨(by omega), (by omega)⟩, ?_⟩
                conv => whnf
                conv => whnf
                conv => whnf
                conv => whnf
                refine ⟨⟨(by omega), (by omega)⟩, ?_⟩
                conv => whnf
                conv => whnf
                conv => whnf
                conv => whnf
                refine ifB_beqB (fun w3 => ?_) (fun w3 => ?_)
                · conv => whnf
                  conv => whnf
                  conv => whnf
                  conv => whnf
                  refine ⟨inK64 (by omega) (by omega), ?_⟩
                  have hg : grows y (N.cs.getD k cn0) = false := by
                    unfold grows
                    have e : y.getD (N.cs.getD k cn0).fr.toNat false = y.getD (N.cs.getD k cn0).to.toNat false := by simpa using w3
                    rw [e]; simp
                  rw [hg] at g2'
                  conv => whnf
                  conv => whnf
                  conv => whnf
                  conv => whnf
                  refine ⟨_, _, ⟨⟨k + 1, y, p, d, false, by omega, hy, hd, hp1, hp2, g1, fun _ => ⟨rfl, g2'⟩, nofun, rfl, rfl⟩, by omega⟩, ⟨⟨rfl, rfl, rfl, rfl⟩, ⟨⟨rfl, rfl, rfl, rfl, fun _ => rfl, fun _ _ => rfl⟩, ⟨⟨rfl, rfl, rfl, rfl, fun _ => rfl, fun _ _ => rfl⟩, ⟨⟨rfl, rfl, rfl, rfl, fun _ => rfl, fun _ _ => rfl⟩, ⟨⟨rfl, rfl, rfl, rfl, fun _ => rfl, fun _ _ => rfl⟩, trivial⟩⟩⟩⟩, trivial⟩⟩
                · conv => whnf
                  conv => whnf
                  conv => whnf
                  conv => whnf
                  refine ⟨⟨(by omega), (by omega)⟩, ?_⟩
                  conv => whnf
                  conv => whnf
                  conv => whnf
                  conv => whnf
                  refine ifB_intro (fun w4 => ?_) (fun w4 => ?_)
                  · conv => whnf
                    conv => whnf
                    conv => whnf
                    conv => whnf
                    refine ⟨⟨(by omega), (by omega)⟩, ?_⟩
                    refine ⟨_, fun i _ => row1 _ _ i _ (by first | omega | (simp only [List.length_set]; omega) | (simp only [List.length_replicate]; omega) | (simp only [List.length_set, List.length_replicate]; omega)), ?_⟩
                    conv => whnf
                    conv => whnf
                    conv => whnf
                    conv => whnf
                    refine ⟨(by show _ * (8 + 1) ≤ _; omega), ?_⟩
                    conv => whnf
                    conv => whnf
                    conv => whnf
                    conv => whnf
                    refine ⟨(by show _ * (8 + 1) ≤ _; omega), ?_⟩
                    conv => whnf
                    conv => whnf
                    conv => whnf
                    conv => whnf
                    refine ⟨inK64 (by omega) (by omega), ?_⟩
                    obtain ⟨e3, e4, e5, e6⟩ := hgs d w2 w3
                    have hnn : newNode y (N.cs.getD k cn0) = (N.cs.getD k cn0).fr := if_pos (by simpa using w4)
                    rw [e6, hnn] at g1
                    rw [hnn] at e5
                    conv => whnf
                    conv => whnf
                    conv => whnf
                    conv => whnf
                    refine ⟨_, _, ⟨⟨k + 1, y.set (N.cs.getD (k : Int).toNat cn0).fr.toNat true, p + 1, d ++ [((k : Int), (N.cs.getD (k : Int).toNat cn0).fr)], true, by omega, by simpa using hy, by simpa using hd, (by show p + 1 + nF (y.set (N.cs.getD k cn0).fr.toNat true) ≤ _; omega), (by show p + 1 + nF (y.set (N.cs.getD k cn0).fr.toNat true) = _; omega), g1, nofun, fun _ => (by show nF (y.set (N.cs.getD k cn0).fr.toNat true) < _; omega), rfl, rfl⟩, by omega⟩, ⟨⟨rfl, rfl, rfl, rfl⟩, ⟨⟨rfl, rfl, rfl, rfl, fun _ => rfl, fun _ _ => rfl⟩, ⟨⟨rfl, rfl, rfl, rfl, fun _ => rfl, fun _ _ => rfl⟩, ⟨⟨rfl, rfl, rfl, rfl, fun _ => rfl, fun j h => app_rowM1 hd _ j h⟩, ⟨⟨rfl, rfl, rfl, rfl, fun _ => rfl, fun j h => app_rowM2 hd _ j h⟩, trivial⟩⟩⟩⟩, trivial⟩⟩
                  · conv => whnf
                    conv => whnf
                    conv => whnf
                    conv => whnf
                    refine ⟨⟨(by omega), (by omega)⟩, ?_⟩
                    refine ⟨_, fun i _ => row1 _ _ i _ (by first | omega | (simp only [List.length_set]; omega) | (simp only [List.length_replicate]; omega) | (simp only [List.length_set, List.length_replicate]; omega)), ?_⟩
                    conv => whnf
                    conv => whnf
                    conv => whnf
                    conv => whnf
                    refine ⟨(by show _ * (8 + 1) ≤ _; omega), ?_⟩
                    conv => whnf
                    conv => whnf
                    conv => whnf
                    conv => whnf
                    refine ⟨(by show _ * (8 + 1) ≤ _; omega), ?_⟩
                    conv => whnf
                    conv => whnf
                    conv => whnf
                    conv => whnf
                    refine ⟨inK64 (by omega) (by omega), ?_⟩
                    obtain ⟨e3, e4, e5, e6⟩ := hgs d w2 w3
                    have hnn : newNode y (N.cs.getD k cn0) = (N.cs.getD k cn0).to := if_neg (by simpa using w4)
                    rw [e6, hnn] at g1
                    rw [hnn] at e5
                    conv => whnf
                    conv => whnf
                    conv => whnf
                    conv => whnf
                    refine ⟨_, _, ⟨⟨k + 1, y.set (N.cs.getD (k : Int).toNat cn0).to.toNat true, p + 1, d ++ [((k : Int), (N.cs.getD (k : Int).toNat cn0).to)], true, by omega, by simpa using hy, by simpa using hd, (by show p + 1 + nF (y.set (N.cs.getD k cn0).to.toNat true) ≤ _; omega), (by show p + 1 + nF (y.set (N.cs.getD k cn0).to.toNat true) = _; omega), g1, nofun, fun _ => (by show nF (y.set (N.cs.getD k cn0).to.toNat true) < _; omega), rfl, rfl⟩, by omega⟩, ⟨⟨rfl, rfl, rfl, rfl⟩, ⟨⟨rfl, rfl, rfl, rfl, fun _ => rfl, fun _ _ => rfl⟩, ⟨⟨rfl, rfl, rfl, rfl, fun _ => rfl, fun _ _ => rfl⟩, ⟨⟨rfl, rfl, rfl, rfl, fun _ => rfl, fun j h => app_rowM1 hd _ j h⟩, ⟨⟨rfl, rfl, rfl, rfl, fun _ => rfl, fun j h => app_rowM2 hd _ j h⟩, trivial⟩⟩⟩⟩, trivial⟩⟩
              · conv => whnf
                conv => whnf
                conv => whnf
                conv => whnf
                refine ⟨inK64 (by omega) (by omega), ?_⟩
                have hg : grows y (N.cs.getD k cn0) = false := by
                  unfold grows
                  rw [show (N.cs.getD k cn0).opn = false from w2]; rfl
                rw [hg] at g2'
                conv => whnf
                conv => whnf
                conv => whnf
                conv => whnf
                refine ⟨_, _, ⟨⟨k + 1, y, p, d, false, by omega, hy, hd, hp1, hp2, g1, fun _ => ⟨rfl, g2'⟩, nofun, rfl, rfl⟩, by omega⟩, ⟨⟨rfl, rfl, rfl, rfl⟩, ⟨⟨rfl, rfl, rfl, rfl, fun _ => rfl, fun _ _ => rfl⟩, ⟨⟨rfl, rfl, rfl, rfl, fun _ => rfl, fun _ _ => rfl⟩, ⟨⟨rfl, rfl, rfl, rfl, fun _ => rfl, fun _ _ => rfl⟩, ⟨⟨rfl, rfl, rfl, rfl, fun _ => rfl, fun _ _ => rfl⟩, trivial⟩⟩⟩⟩, trivial⟩⟩
            · (exfalso; omega)
          · have e : k = N.cs.length := by omega
            subst e
            rw [List.drop_length] at g2'
            have g2'' : fstC (grows y) 0 N.cs = -1 := g2'
            have t1 : true.toNat = 1 := rfl
            have t0 : false.toNat = 0 := rfl
            conv => whnf
            conv => whnf
            conv => whnf
            conv => whnf
            refine ifB_dec (fun w1 => ?_) (fun w1 => ?_)
            · (exfalso; omega)
            · conv => whnf
              conv => whnf
              conv => whnf
              conv => whnf
              refine ⟨_, _, ⟨⟨y, p, d, false, hy, hd, hp1, hp2, g1, fun _ => by omega, rfl, rfl⟩, by omega⟩, ⟨⟨rfl, rfl, rfl, rfl⟩, ⟨⟨rfl, rfl, rfl, rfl, fun _ => rfl, fun _ _ => rfl⟩, ⟨⟨rfl, rfl, rfl, rfl, fun _ => rfl, fun _ _ => rfl⟩, ⟨⟨rfl, rfl, rfl, rfl, fun _ => rfl, fun _ _ => rfl⟩, ⟨⟨rfl, rfl, rfl, rfl, fun _ => rfl, fun _ _ => rfl⟩, trivial⟩⟩⟩⟩, trivial⟩⟩
end Go.Tr

/- Contracts of chapter 2: the closing conduit, the form of a net. Conditions: none. -/
namespace Go.Tr
open Go Go.Proofs
set_option maxRecDepth 20000
set_option maxHeartbeats 8000000

theorem contains_drop {l : List Int} {k : Nat} {x : Int} (h : k < l.length) : (l.drop k).contains x = (x == l.getD k 0 || (l.drop (k + 1)).contains x) := by
  have e : l.getD k 0 = l[k] := by simp [List.getD_eq_getElem?_getD, h]
  rw [List.drop_eq_getElem_cons h, List.contains_cons, e]
theorem S14 (l : List Int) (x : Int) (hl : l.length ≤ 1000000000) : SP 14 [ints l, i64 x] (vb (l.contains x)) false := by
  generalize hR : l.contains x = R
  refine sound (d := 2) tok2 mixed2 Tryz.func14 (by kernel_rfl) (by kernel_rfl) ?_
  conv => whnf
  refine ⟨[], [0, 1, 5], fun st mq => ∃ (k : Nat), (k ≤ l.length) ∧ ((l.drop k).contains x = R) ∧ st = ⟨[(0, ints l), (1, i64 x), (5, i64 k)], ⟨[], [], none, 0⟩, []⟩ ∧ mq = l.length - k,
    ⟨_, _, ⟨0, by omega, hR, rfl, rfl⟩, ⟨⟨rfl, rfl, rfl, rfl⟩, trivial, trivial⟩⟩, ?_⟩
  rintro s0 m0 ⟨k, hk, h1, rfl, hmeas⟩
  by_cases hkl : k < l.length
  · rw [contains_drop hkl] at h1
    conv => whnf
    conv => whnf
    refine ifB_dec (fun w1 => ?_) (fun w1 => ?_)
    · conv => whnf
      conv => whnf
      refine ⟨⟨(by omega), (by omega)⟩, ?_⟩
      conv => whnf
      conv => whnf
      refine ifB_beq (fun w2 => ?_) (fun w2 => ?_)
      · conv => whnf
        conv => whnf
        refine ⟨?_, nofun⟩
        have e : l.getD k 0 = x := w2
        rw [e, beq_self_eq_true, Bool.true_or] at h1
        show vb _ = vb _
        rw [← h1]
      · conv => whnf
        conv => whnf
        refine ⟨inK64 (by omega) (by omega), ?_⟩
        have e : ¬ l.getD k 0 = x := w2
        have e2 : (x == l.getD k 0) = false := by simpa using fun h => e h.symm
        rw [e2, Bool.false_or] at h1
        conv => whnf
        conv => whnf
        refine ⟨_, _, ⟨⟨k + 1, by omega, h1, rfl, rfl⟩, by omega⟩, ⟨⟨rfl, rfl, rfl, rfl⟩, trivial, trivial⟩⟩
    · (exfalso; omega)
  · have e : k = l.length := by omega
    subst e
    rw [List.drop_length] at h1
    conv => whnf
    conv => whnf
    refine ifB_dec (fun w1 => ?_) (fun w1 => ?_)
    · (exfalso; omega)
    · conv => whnf
      conv => whnf
      refine ⟨?_, nofun⟩
      show vb _ = vb _
      rw [← h1]; rfl

theorem S99 (b : Int × Int) (i : Int) : SP 99 [.agg (brC b), .rptr [i64 i]] (vb (b.1 == i)) true := by
  have h : SP 99 [.agg (brC b), .rptr [i64 i]] (vb (b.1 == i)) false := by
    refine sound (d := 2) tok2 mixed2 Tryz.func99 (by kernel_rfl) (by kernel_rfl) ?_
    conv => whnf
    refine ⟨?_, nofun⟩
    rfl
  exact h.pl rfl

/-- The index of the branch of a conduit. -/
def idxR (x : Int) : Nat → List (Int × Int) → Int
  | _, [] => -1
  | k, b :: r => if b.1 = x then k else idxR x (k + 1) r
theorem idxR_drop {x : Int} {l : List (Int × Int)} {k : Nat} (h : k < l.length) : idxR x k (l.drop k) = if (l.getD k (0, 0)).1 = x then (k : Int) else idxR x (k + 1) (l.drop (k + 1)) := by
  rw [List.drop_eq_getElem_cons h, idxR]; simp [List.getD_eq_getElem?_getD, h]
theorem idxR_has (x : Int) : ∀ (l : List (Int × Int)) (k : Nat), decide (idxR x k l ≥ 0) = (l.map (·.1)).contains x
  | [], k => rfl
  | b :: r, k => by
    rw [idxR, List.map_cons, List.contains_cons]
    by_cases h : b.1 = x
    · rw [if_pos h, ← h]; simp
    · rw [if_neg h, idxR_has x r (k + 1)]
      have e2 : (x == b.1) = false := by simpa using fun e => h e.symm
      rw [e2, Bool.false_or]
theorem S113 (l : List (Int × Int)) (x : Int) (hl : l.length ≤ 1000) : SP 113 [brA l, .func (.func 99) 0 [.rptr [i64 x]]] (i64 (idxR x 0 l)) false := by
  generalize hR : idxR x 0 l = R
  refine sound (d := 2) tok2 mixed2 Tryz.func113 (by kernel_rfl) (by kernel_rfl) ?_
  conv => whnf
  refine ⟨[], [0, 1, 7, 8], fun st mq => ∃ (k : Nat), (k ≤ l.length) ∧ (idxR x k (l.drop k) = R) ∧ st = ⟨[(0, brA l), (1, .func (.func 99) 0 [.rptr [i64 x]]), (7, i64 l.length), (8, i64 k)], ⟨[], [], none, 0⟩, []⟩ ∧ mq = l.length - k,
    ⟨_, _, ⟨0, by omega, hR, rfl, rfl⟩, ⟨⟨rfl, rfl, rfl, rfl⟩, trivial, trivial⟩⟩, ?_⟩
  rintro s0 m0 ⟨k, hk, h1, rfl, hmeas⟩
  by_cases hkl : k < l.length
  · rw [idxR_drop hkl] at h1
    have hq := S99 (l.getD (k : Int).toNat (0, 0)) x
    conv => whnf
    conv => whnf
    refine ifB_dec (fun w1 => ?_) (fun w1 => ?_)
    · conv => whnf
      conv => whnf
      refine ⟨⟨(by omega), (by omega)⟩, ?_⟩
      conv => whnf
      conv => whnf
      refine .inl ⟨_, _, byX rfl (hq), ?_⟩
      conv => whnf
      conv => whnf
      refine ifB_beq (fun w2 => ?_) (fun w2 => ?_)
      · conv => whnf
        conv => whnf
        refine ⟨?_, nofun⟩
        have e : (l.getD k (0, 0)).1 = x := w2
        rw [if_pos e] at h1
        show i64 _ = i64 _
        rw [← h1]
      · conv => whnf
        conv => whnf
        refine ⟨inK64 (by omega) (by omega), ?_⟩
        have e : ¬ (l.getD k (0, 0)).1 = x := w2
        rw [if_neg e] at h1
        conv => whnf
        conv => whnf
        refine ⟨_, _, ⟨⟨k + 1, by omega, h1, rfl, rfl⟩, by omega⟩, ⟨⟨rfl, rfl, rfl, rfl⟩, trivial, trivial⟩⟩
    · (exfalso; omega)
  · have e : k = l.length := by omega
    subst e
    rw [List.drop_length] at h1
    conv => whnf
    conv => whnf
    refine ifB_dec (fun w1 => ?_) (fun w1 => ?_)
    · (exfalso; omega)
    · conv => whnf
      conv => whnf
      refine ⟨?_, nofun⟩
      show i64 _ = i64 _
      rw [← h1]; rfl
theorem S98 (l : List (Int × Int)) (x : Int) (hl : l.length ≤ 1000) : SP 98 [brA l, .func (.func 99) 0 [.rptr [i64 x]]] (vb ((l.map (·.1)).contains x)) false := by
  have h161 := S113 l x hl
  refine sound (d := 2) tok2 mixed2 Tryz.func98 (by kernel_rfl) (by kernel_rfl) ?_
  conv => whnf
  refine .inl ⟨_, _, byX rfl (Sound1.pl (h161) rfl), ?_⟩
  conv => whnf
  refine ⟨?_, nofun⟩
  show vb _ = vb _
  rw [idxR_has]

/-- The closing conduit, and the error of the form: from a conduit on. -/
def closeF (T : List Int) : Nat → List Cn → Int → Int × Int
  | _, [], o => (o, 0)
  | k, c :: r, o => if c.opn = false ∨ T.contains (k : Int) = true then closeF T (k + 1) r o else if o ≥ 0 then (o, 8) else closeF T (k + 1) r k
theorem closeF_drop {T : List Int} {l : List Cn} {k : Nat} {o : Int} (h : k < l.length) : closeF T k (l.drop k) o = if (l.getD k cn0).opn = false ∨ T.contains (k : Int) = true then closeF T (k + 1) (l.drop (k + 1)) o else if o ≥ 0 then (o, 8) else closeF T (k + 1) (l.drop (k + 1)) k := by
  have e : l.getD k cn0 = l[k] := by simp [List.getD_eq_getElem?_getD, h]
  rw [List.drop_eq_getElem_cons h, closeF, e]
/-- The branches of a net, its closing conduit (as the program says), the error of its form. -/
def brF (N : Net) : List (Int × Int) := (treeF N).2
def gapE (N : Net) : Bool := (treeF N).1.contains false
def clF (N : Net) : Int × Int := if gapE N then (-1, 14) else closeF ((brF N).map (·.1)) 0 N.cs (-1)

theorem growF_len {cs : List Cn} {n : Nat} (hr : inR n cs) : ∀ (k : Nat) (m : List Bool) (b : List (Int × Int)), m.length = n → nF m ≤ k → (growF cs k m b).1.length = n ∧ (growF cs k m b).2.length + nF (growF cs k m b).1 = b.length + nF m ∧ fstC (grows (growF cs k m b).1) 0 cs < 0
  | 0, m, b, hm, hk => by
    refine ⟨hm, rfl, ?_⟩
    rcases Int.lt_or_le (fstC (grows m) 0 cs) 0 with h | h
    · exact h
    · obtain ⟨i, _, _, _, _, _, e5, _⟩ := grow_step hr hm (by omega)
      omega
  | k + 1, m, b, hm, hk => by
    rcases Int.lt_or_le (fstC (grows m) 0 cs) 0 with h | h
    · rw [growF, if_pos h]; exact ⟨hm, rfl, h⟩
    · obtain ⟨i, hi, e1, e2, e3, e4, e5, _⟩ := grow_step hr hm (by omega)
      rw [growF, if_neg (by omega), e1]
      have ih := growF_len hr k (m.set (newNode m (cs.getD (i : Int).toNat cn0)).toNat true) (b ++ [((i : Int), newNode m (cs.getD (i : Int).toNat cn0))]) (by simpa using hm) (by
        show nF (m.set (newNode m (cs.getD i cn0)).toNat true) ≤ k
        omega)
      refine ⟨ih.1, ?_, ih.2.2⟩
      rw [ih.2.1]
      have : nF (m.set (newNode m (cs.getD (i : Int).toNat cn0)).toNat true) + 1 = nF m := e5
      simp only [List.length_append, List.length_cons, List.length_nil]
      omega
theorem treeF_len {N : Net} (hr : inR N.ns.length N.cs) : (treeF N).1.length = N.ns.length ∧ (brF N).length + nF (treeF N).1 = nF (lakesB N) := by
  have := growF_len hr (nF (lakesB N)) (lakesB N) [] (lakesB_len N) (Nat.le_refl _)
  refine ⟨this.1, ?_⟩
  have h := this.2.1
  simpa [brF, treeF] using h
theorem contains_false (m : List Bool) : m.contains false = decide (0 < nF m) := by
  rw [Bool.eq_iff_iff, decide_eq_true_eq, List.contains_iff_mem]
  exact List.count_pos_iff.symm
/-- All junctions are in the tree, or one is not. -/
theorem gap_ok {N : Net} (hr : inR N.ns.length N.cs) : decide ((brF N).length = nF (lakesB N)) = !gapE N := by
  have := (treeF_len hr).2
  unfold gapE
  rw [contains_false, Bool.eq_iff_iff]
  simp only [decide_eq_true_eq, Bool.not_eq_true', decide_eq_false_iff_not]
  omega
theorem brF_len {N : Net} (hr : inR N.ns.length N.cs) : (brF N).length ≤ N.ns.length := by
  have h := (treeF_len hr).2
  have := nF_le (lakesB N)
  rw [lakesB_len] at this
  omega

theorem ave_treeE (N : Net) (b : List (Int × Int)) (c e : Int) : AVE 5 (.tuple [treeA N b c, i64 e]) (.tuple [treeA N b c, i64 e]) :=
  ave_tup2 (k := 4) (ave_agg4 (k := 3) (a := .rslice 4 N.ns.length _) (b := .rslice 6 N.cs.length _) (c := .rslice 2 b.length _) (d := i64 c) ⟨rfl, rfl, fun _ _ => rfl⟩ ⟨rfl, rfl, fun _ _ => rfl⟩ ⟨rfl, rfl, fun _ _ => rfl⟩ rfl) rfl
theorem ave_tree (N : Net) (b : List (Int × Int)) (c : Int) : AVE 5 (treeA N b c) (treeA N b c) :=
  ave_agg4 (k := 4) (a := .rslice 4 N.ns.length _) (b := .rslice 6 N.cs.length _) (c := .rslice 2 b.length _) (d := i64 c) ⟨rfl, rfl, fun _ _ => rfl⟩ ⟨rfl, rfl, fun _ _ => rfl⟩ ⟨rfl, rfl, fun _ _ => rfl⟩ rfl
theorem S61 (N : Net) (hn : N.ns.length ≤ 1000) (hc : N.cs.length ≤ 1000) (hr : inR N.ns.length N.cs) : SP 61 [netV N] (.tuple [treeA N (brF N) (clF N).1, i64 (clF N).2]) false := by
  have h151 := S27 N hn hc hr
  have hb := brF_len hr
  change SP 27 _ (.tuple [treeA N (brF N) (-1), i64 (if gapE N = true then 14 else 0)]) false at h151
  generalize hR : clF N = R
  unfold clF at hR
  cases hg : gapE N with
  | true =>
    rw [hg] at h151 hR
    rw [if_pos rfl] at hR h151
    subst hR
    refine sound (d := 2) tok2 mixed2 Tryz.func61 (by kernel_rfl) (by kernel_rfl) ?_
    conv => whnf
    refine .inl ⟨_, _, byX rfl (h151), ?_⟩
    conv => whnf
    refine ⟨?_, nofun⟩
    exact ave_treeE N _ _ _
  | false =>
    rw [hg] at h151 hR
    rw [if_neg nofun] at hR h151
    refine sound (d := 2) tok2 mixed2 Tryz.func61 (by kernel_rfl) (by kernel_rfl) ?_
    conv => whnf
    refine .inl ⟨_, _, byX rfl (h151), ?_⟩
    conv => whnf
    refine ⟨[], [2, 4, 20, 21, 22], fun st mq => ∃ (k : Nat) (o : Int), (k ≤ N.cs.length) ∧ (o ≤ k) ∧ (closeF ((brF N).map (·.1)) k (N.cs.drop k) o = R) ∧ st = ⟨[(2, .optr 1 0 0 0), (4, .optr 2 0 0 0), (20, listA 6 cnC cn0 N.cs), (21, i64 N.cs.length), (22, i64 k)], ⟨[netBlk N, ⟨4, 1, fun _ => [.eslice, .eslice, .eslice, i64 0], 0, false, true, true⟩, ⟨4, 1, fun _ => [listA 4 ndC nd0 N.ns, listA 6 cnC cn0 N.cs, brA (brF N), i64 o], 0, false, true, true⟩], [], none, 0⟩, []⟩ ∧ mq = N.cs.length - k,
      ⟨_, _, ⟨0, -1, by omega, by omega, hR, rfl, rfl⟩, ⟨⟨rfl, rfl, rfl, rfl⟩, ⟨⟨rfl, rfl, rfl, rfl, fun _ => rfl, fun _ _ => rfl⟩, ⟨⟨rfl, rfl, rfl, rfl, fun _ => rfl, fun _ _ => rfl⟩, ⟨⟨rfl, rfl, rfl, rfl, fun _ => rfl, fun _ _ => rfl⟩, trivial⟩⟩⟩, trivial⟩⟩, ?_⟩
    rintro s0 m0 ⟨k, o, hk, ho, h1, rfl, hmeas⟩
    by_cases hkl : k < N.cs.length
    · rw [closeF_drop hkl] at h1
      have h152 := S98 (brF N) (k : Int) (by omega)
      conv => whnf
      conv => whnf
      refine ifB_dec (fun w1 => ?_) (fun w1 => ?_)
      · conv => whnf
        conv => whnf
        refine ⟨⟨(by omega), (by omega)⟩, ?_⟩
        conv => whnf
        conv => whnf
        refine .inl ⟨_, _, byX rfl (Sound1.pl (h152) rfl), ?_⟩
        conv => whnf
        conv => whnf
        refine ifB_not ?_
        conv => whnf
        conv => whnf
        refine ifB_intro (fun w2 => ?_) (fun w2 => ?_)
        · conv => whnf
          conv => whnf
          refine ifB_intro (fun w3 => ?_) (fun w3 => ?_)
          · conv => whnf
            conv => whnf
            refine ⟨inK64 (by omega) (by omega), ?_⟩
            rw [if_pos (.inr w3)] at h1
            conv => whnf
            conv => whnf
            refine ⟨_, _, ⟨⟨k + 1, o, by omega, by omega, h1, rfl, rfl⟩, by omega⟩, ⟨⟨rfl, rfl, rfl, rfl⟩, ⟨⟨rfl, rfl, rfl, rfl, fun _ => rfl, fun _ _ => rfl⟩, ⟨⟨rfl, rfl, rfl, rfl, fun _ => rfl, fun _ _ => rfl⟩, ⟨⟨rfl, rfl, rfl, rfl, fun _ => rfl, fun _ _ => rfl⟩, trivial⟩⟩⟩, trivial⟩⟩
          · conv => whnf
            conv => whnf
            refine ifB_dec (fun w4 => ?_) (fun w4 => ?_)
            · conv => whnf
              conv => whnf
              refine ⟨?_, nofun⟩
              rw [if_neg (by rintro (e | e); exact absurd (w2.symm.trans e) nofun; exact absurd (w3.symm.trans e) nofun), if_pos w4] at h1
              subst h1
              exact ave_treeE N _ _ _
            · conv => whnf
              conv => whnf
              refine ⟨inK64 (by omega) (by omega), ?_⟩
              rw [if_neg (by rintro (e | e); exact absurd (w2.symm.trans e) nofun; exact absurd (w3.symm.trans e) nofun), if_neg w4] at h1
              conv => whnf
              conv => whnf
              refine ⟨_, _, ⟨⟨k + 1, k, by omega, by omega, h1, rfl, rfl⟩, by omega⟩, ⟨⟨rfl, rfl, rfl, rfl⟩, ⟨⟨rfl, rfl, rfl, rfl, fun _ => rfl, fun _ _ => rfl⟩, ⟨⟨rfl, rfl, rfl, rfl, fun _ => rfl, fun _ _ => rfl⟩, ⟨⟨rfl, rfl, rfl, rfl, fun _ => rfl, fun _ _ => rfl⟩, trivial⟩⟩⟩, trivial⟩⟩
        · conv => whnf
          conv => whnf
          refine ⟨inK64 (by omega) (by omega), ?_⟩
          rw [if_pos (.inl w2)] at h1
          conv => whnf
          conv => whnf
          refine ⟨_, _, ⟨⟨k + 1, o, by omega, by omega, h1, rfl, rfl⟩, by omega⟩, ⟨⟨rfl, rfl, rfl, rfl⟩, ⟨⟨rfl, rfl, rfl, rfl, fun _ => rfl, fun _ _ => rfl⟩, ⟨⟨rfl, rfl, rfl, rfl, fun _ => rfl, fun _ _ => rfl⟩, ⟨⟨rfl, rfl, rfl, rfl, fun _ => rfl, fun _ _ => rfl⟩, trivial⟩⟩⟩, trivial⟩⟩
      · (exfalso; omega)
    · have e : k = N.cs.length := by omega
      subst e
      rw [List.drop_length, closeF] at h1
      subst h1
      conv => whnf
      conv => whnf
      refine ifB_dec (fun w1 => ?_) (fun w1 => ?_)
      · (exfalso; omega)
      · conv => whnf
        conv => whnf
        refine ⟨?_, nofun⟩
        exact ave_treeE N _ _ _

theorem ints_map1 (l : List (Int × Int)) : ints (l.map (·.1)) = .rslice 1 l.length fun i => [i64 ((l.map (·.1)).getD i 0)] := by
  unfold ints; rw [List.length_map]
/-- As the reference says it. -/
def clR (N : Net) : Int := if (clF N).2 = 0 then (clF N).1 else -1
theorem closeF_err (T : List Int) : ∀ (l : List Cn) (k : Nat) (o : Int), -1 ≤ o → (closeF T k l o).2 = 0 ∧ -1 ≤ (closeF T k l o).1 ∨ (closeF T k l o).2 = 8 ∧ 0 ≤ (closeF T k l o).1
  | [], k, o, h => .inl ⟨rfl, h⟩
  | c :: r, k, o, h => by
    rw [closeF]
    split
    · exact closeF_err T r _ _ h
    · split
      · exact .inr ⟨rfl, by assumption⟩
      · exact closeF_err T r _ _ (by omega)
theorem S16 (N : Net) (hn : N.ns.length ≤ 1000) (hc : N.cs.length ≤ 1000) (hr : inR N.ns.length N.cs) : SP 16 [netV N] (.tuple [i64 (clR N), i64 (clF N).2]) false := by
  have h137 := S13 N hn hc hr
  have hb := brF_len hr
  change SP 13 _ (.tuple [ints ((brF N).map (·.1)), ints ((brF N).map (·.2)), vb (decide ((brF N).length = nF (lakesB N)))]) false at h137
  rw [gap_ok hr] at h137
  generalize hR : clF N = R
  unfold clR
  rw [hR]
  unfold clF at hR
  cases hg : gapE N with
  | true =>
    rw [hg] at h137 hR
    rw [if_pos rfl] at hR
    subst hR
    refine sound (d := 2) tok2 mixed2 Tryz.func16 (by kernel_rfl) (by kernel_rfl) ?_
    conv => whnf
    refine .inl ⟨_, _, byX rfl (h137), ?_⟩
    conv => whnf
    refine ⟨?_, nofun⟩
    exact ave_tup2 (k := 4) rfl rfl
  | false =>
    rw [hg] at h137 hR
    rw [if_neg nofun] at hR
    refine sound (d := 2) tok2 mixed2 Tryz.func16 (by kernel_rfl) (by kernel_rfl) ?_
    conv => whnf
    refine .inl ⟨_, _, byX rfl (h137), ?_⟩
    conv => whnf
    refine ⟨[], [1, 4, 7, 8], fun st mq => ∃ (k : Nat) (o : Int), (k ≤ N.cs.length) ∧ (-1 ≤ o ∧ o ≤ k) ∧ (closeF ((brF N).map (·.1)) k (N.cs.drop k) o = R) ∧ st = ⟨[(1, .optr 0 0 0 0), (4, ints ((brF N).map (·.1))), (7, i64 o), (8, i64 k)], ⟨[netBlk N], [], none, 0⟩, []⟩ ∧ mq = N.cs.length - k,
      ⟨_, _, ⟨0, -1, by omega, by omega, hR, rfl, rfl⟩, ⟨⟨rfl, rfl, rfl, rfl⟩, ⟨⟨rfl, rfl, rfl, rfl, fun _ => rfl, fun _ _ => rfl⟩, trivial⟩, trivial⟩⟩, ?_⟩
    rintro s0 m0 ⟨k, o, hk, ho, h1, rfl, hmeas⟩
    by_cases hkl : k < N.cs.length
    · rw [closeF_drop hkl] at h1
      have h68 := S14 ((brF N).map (·.1)) (k : Int) (by simp; omega)
      conv => whnf
      conv => whnf
      refine ifB_dec (fun w1 => ?_) (fun w1 => ?_)
      · conv => whnf
        conv => whnf
        refine ⟨⟨(by omega), (by omega)⟩, ?_⟩
        conv => whnf
        conv => whnf
        refine ifB_not ?_
        conv => whnf
        conv => whnf
        refine ifB_intro (fun w2 => ?_) (fun w2 => ?_)
        · conv => whnf
          conv => whnf
          refine .inl ⟨_, _, byX rfl (Sound1.pl (h68) rfl), ?_⟩
          conv => whnf
          conv => whnf
          refine ifB_intro (fun w3 => ?_) (fun w3 => ?_)
          · conv => whnf
            conv => whnf
            refine ⟨inK64 (by omega) (by omega), ?_⟩
            rw [if_pos (.inr w3)] at h1
            conv => whnf
            conv => whnf
            refine ⟨_, _, ⟨⟨k + 1, o, by omega, by omega, h1, rfl, rfl⟩, by omega⟩, ⟨⟨rfl, rfl, rfl, rfl⟩, ⟨⟨rfl, rfl, rfl, rfl, fun _ => rfl, fun _ _ => rfl⟩, trivial⟩, trivial⟩⟩
          · conv => whnf
            conv => whnf
            refine ifB_dec (fun w4 => ?_) (fun w4 => ?_)
            · conv => whnf
              conv => whnf
              refine ⟨?_, nofun⟩
              rw [if_neg (by rintro (e | e); exact absurd (w2.symm.trans e) nofun; exact absurd (w3.symm.trans e) nofun), if_pos w4] at h1
              subst h1
              exact ave_tup2 (k := 4) rfl rfl
            · conv => whnf
              conv => whnf
              refine ⟨inK64 (by omega) (by omega), ?_⟩
              rw [if_neg (by rintro (e | e); exact absurd (w2.symm.trans e) nofun; exact absurd (w3.symm.trans e) nofun), if_neg w4] at h1
              conv => whnf
              conv => whnf
              refine ⟨_, _, ⟨⟨k + 1, k, by omega, by omega, h1, rfl, rfl⟩, by omega⟩, ⟨⟨rfl, rfl, rfl, rfl⟩, ⟨⟨rfl, rfl, rfl, rfl, fun _ => rfl, fun _ _ => rfl⟩, trivial⟩, trivial⟩⟩
        · conv => whnf
          conv => whnf
          refine ⟨inK64 (by omega) (by omega), ?_⟩
          rw [if_pos (.inl w2)] at h1
          conv => whnf
          conv => whnf
          refine ⟨_, _, ⟨⟨k + 1, o, by omega, by omega, h1, rfl, rfl⟩, by omega⟩, ⟨⟨rfl, rfl, rfl, rfl⟩, ⟨⟨rfl, rfl, rfl, rfl, fun _ => rfl, fun _ _ => rfl⟩, trivial⟩, trivial⟩⟩
      · (exfalso; omega)
    · have e : k = N.cs.length := by omega
      subst e
      rw [List.drop_length, closeF] at h1
      subst h1
      conv => whnf
      conv => whnf
      refine ifB_dec (fun w1 => ?_) (fun w1 => ?_)
      · (exfalso; omega)
      · conv => whnf
        conv => whnf
        refine ⟨?_, nofun⟩
        exact ave_tup2 (k := 4) rfl rfl

theorem S32 (c : Int) : SP 32 [i64 c] (i64 (if decide (-200000 ≤ c ∧ c ≤ 200000) = true then 0 else 2)) false := by
  have h73 := S62 c 200000 (by omega) (by omega)
  refine sound (d := 2) tok2 mixed2 Tryz.func32 (by kernel_rfl) (by kernel_rfl) ?_
  conv => whnf
  refine .inl ⟨_, _, byX rfl (Sound1.pl (h73) rfl), ?_⟩
  conv => whnf
  refine .inl ⟨_, _, byX rfl (Sound1.pl (S33 _ _) rfl), ?_⟩
  conv => whnf
  refine ⟨?_, nofun⟩
  rfl
/-- The error of a net's form, a net's own ahead. -/
def formE (N : Net) : Int := if netE N = 0 then (clF N).2 else netE N
/-- What the opening of a tree gives. -/
theorem S30ok (N : Net) (hN : N.In) (hE : netE N = 0) : SP 30 [netV N] (.tuple [treeA N (brF N) (clF N).1, i64 (clF N).2]) false := by
  have hok := net_ok hE
  have h87 := S26 N hN
  rw [hE] at h87
  have h138 := S61 N (by have := hok.n1; omega) (by have := hok.c1; omega) hok.ends
  refine sound (d := 2) tok2 mixed2 Tryz.func30 (by kernel_rfl) (by kernel_rfl) ?_
  conv => whnf
  refine .inl ⟨_, _, byX rfl (h87), ?_⟩
  conv => whnf
  refine .inl ⟨_, _, byX rfl (h138), ?_⟩
  conv => whnf
  refine ⟨?_, nofun⟩
  exact ave_treeE N _ _ _
def tree0 : AV := .agg [.eslice, .eslice, .eslice, i64 0]
theorem S30err (N : Net) (hN : N.In) (hE : ¬ netE N = 0) : SP 30 [netV N] (.tuple [tree0, i64 (netE N)]) false := by
  have h87 := S26 N hN
  refine sound (d := 2) tok2 mixed2 Tryz.func30 (by kernel_rfl) (by kernel_rfl) ?_
  conv => whnf
  refine .inl ⟨_, _, byX rfl (h87), ?_⟩
  conv => whnf
  refine ifB_bne (fun w1 => ?_) (fun w1 => ?_)
  · conv => whnf
    refine ⟨?_, nofun⟩
    exact ave_tup2 (k := 4) (ave_agg4 (k := 3) rfl rfl rfl rfl) rfl
  · (exfalso; omega)
end Go.Tr

/- Plain laws of chapter 2: trees, and what is carried along them. Conditions: none. -/
namespace Go.Tr
open Go Go.Proofs
set_option maxRecDepth 20000
set_option maxHeartbeats 8000000

/-- The other end of a branch, and its sign. -/
def otherN (c : Cn) (v : Int) : Int := if c.to = v then c.fr else c.to
def signN (c : Cn) (v : Int) : Int := if c.to = v then 1 else -1
/-- A branch that comes into a tree. -/
structure BrOk (n : Nat) (cs : List Cn) (m : List Bool) (b : Int × Int) : Prop where
  i0 : 0 ≤ b.1
  i1 : b.1 < cs.length
  v0 : 0 ≤ b.2
  v1 : b.2 < n
  o0 : 0 ≤ otherN (cs.getD b.1.toNat cn0) b.2
  o1 : otherN (cs.getD b.1.toNat cn0) b.2 < n
  new : m.getD b.2.toNat false = false
  old : m.getD (otherN (cs.getD b.1.toNat cn0) b.2).toNat false = true
  opn : (cs.getD b.1.toNat cn0).opn = true
  isEnd : (cs.getD b.1.toNat cn0).to = b.2 ∨ (cs.getD b.1.toNat cn0).fr = b.2
def TreeOk (n : Nat) (cs : List Cn) : List Bool → List (Int × Int) → Prop
  | _, [] => True
  | m, b :: r => BrOk n cs m b ∧ TreeOk n cs (m.set b.2.toNat true) r
/-- Who is in the tree behind some branches. -/
def afterF (m : List Bool) (l : List (Int × Int)) : List Bool := l.foldl (fun m b => m.set b.2.toNat true) m

theorem growF_tree {n : Nat} {cs : List Cn} (hr : inR n cs) : ∀ (k : Nat) (m : List Bool) (b : List (Int × Int)), m.length = n → ∃ r, growF cs k m b = (afterF m r, b ++ r) ∧ TreeOk n cs m r
  | 0, m, b, hm => ⟨[], by simp [growF, afterF], trivial⟩
  | k + 1, m, b, hm => by
    rcases Int.lt_or_le (fstC (grows m) 0 cs) 0 with h | h
    · exact ⟨[], by rw [growF, if_pos h]; simp [afterF], trivial⟩
    · obtain ⟨i, hi, e1, e2, e3, e4, e5, _⟩ := grow_step hr hm (by omega)
      obtain ⟨r, h1, h2⟩ := growF_tree hr k (m.set (newNode m (cs.getD i cn0)).toNat true) (b ++ [((i : Int), newNode m (cs.getD i cn0))]) (by simpa using hm)
      refine ⟨((i : Int), newNode m (cs.getD i cn0)) :: r, ?_, ?_, h2⟩
      · rw [growF, if_neg (by omega), e1]
        show growF cs k (m.set (newNode m (cs.getD i cn0)).toNat true) _ = _
        rw [show ((i : Int).toNat) = i from rfl, h1]
        simp [afterF]
      · have hq := hr (cs.getD i cn0) (by simp [List.getD_eq_getElem?_getD, hi])
        have hne := newNode_out e2
        have hg := e2
        unfold grows at hg
        simp only [Bool.and_eq_true, bne_iff_ne, ne_eq] at hg
        have key : otherN (cs.getD i cn0) (newNode m (cs.getD i cn0)) = (if m.getD (cs.getD i cn0).to.toNat false then (cs.getD i cn0).to else (cs.getD i cn0).fr) ∧ ((cs.getD i cn0).to = newNode m (cs.getD i cn0) ∨ (cs.getD i cn0).fr = newNode m (cs.getD i cn0)) := by
          unfold otherN newNode
          cases ht : m.getD (cs.getD i cn0).to.toNat false with
          | true =>
            simp only [if_true]
            refine ⟨?_, .inr trivial⟩
            rw [if_neg]
            intro e
            rw [e] at ht
            exact hg.2 (by rw [ht, e, ht])
          | false => simp
        have hold : m.getD (otherN (cs.getD i cn0) (newNode m (cs.getD i cn0))).toNat false = true := by
          rw [key.1]
          cases ht : m.getD (cs.getD i cn0).to.toNat false with
          | true => simpa using ht
          | false =>
            simp only [Bool.false_eq_true, if_false]
            cases hf : m.getD (cs.getD i cn0).fr.toNat false with
            | true => rfl
            | false => exact absurd (hf.trans ht.symm) hg.2
        exact ⟨Int.natCast_nonneg i, by show (i : Int) < _; omega, e3, e4, by
          show 0 ≤ otherN (cs.getD i cn0) _
          rw [key.1]; split <;> omega, by
          show otherN (cs.getD i cn0) _ < _
          rw [key.1]; split <;> omega, hne, hold, hg.1, key.2⟩
theorem brF_tree {N : Net} (hr : inR N.ns.length N.cs) : TreeOk N.ns.length N.cs (lakesB N) (brF N) ∧ (treeF N).1 = afterF (lakesB N) (brF N) := by
  obtain ⟨r, h1, h2⟩ := growF_tree hr (nF (lakesB N)) (lakesB N) [] (lakesB_len N)
  have e : brF N = r := by unfold brF treeF; rw [h1]; rfl
  rw [e]
  exact ⟨h2, by unfold treeF; rw [h1]⟩

/-- The size of a number. -/
def absI (x : Int) : Int := if 0 ≤ x then x else -x
/-- The sizes of what is marked, added up. -/
def sumM : List Bool → List Int → Int
  | m :: ms, d :: ds => (if m then absI d else 0) + sumM ms ds
  | _, _ => 0
theorem absI_nonneg (x : Int) : 0 ≤ absI x := by unfold absI; split <;> omega
theorem absI_add (x y : Int) : absI (x + y) ≤ absI x + absI y := by unfold absI; split <;> split <;> split <;> omega
theorem sumM_nonneg : ∀ (m : List Bool) (d : List Int), 0 ≤ sumM m d
  | [], d => by simp [sumM]
  | m :: ms, [] => by simp [sumM]
  | m :: ms, d :: ds => by
    have := sumM_nonneg ms ds
    have := absI_nonneg d
    rw [sumM]; split <;> omega
theorem sumM_mark : ∀ (m : List Bool) (d : List Int) (v : Nat), m.length = d.length → v < m.length → m.getD v false = false → sumM (m.set v true) d = sumM m d + absI (d.getD v 0)
  | [], d, v, _, h, _ => by simp at h
  | m :: ms, [], v, hl, _, _ => by simp at hl
  | m :: ms, d :: ds, 0, hl, h, hm => by
    simp at hm
    subst hm
    simp [sumM]; omega
  | m :: ms, d :: ds, v + 1, hl, h, hm => by
    have := sumM_mark ms ds v (by simpa using hl) (by simpa using h) (by simpa using hm)
    simp only [List.set_cons_succ, sumM, List.getD_cons_succ]
    omega
theorem sumM_set : ∀ (m : List Bool) (d : List Int) (o : Nat) (x : Int), m.length = d.length → o < m.length → m.getD o false = true → sumM m (d.set o x) = sumM m d - absI (d.getD o 0) + absI x
  | [], d, o, x, _, h, _ => by simp at h
  | m :: ms, [], o, x, hl, _, _ => by simp at hl
  | m :: ms, d :: ds, 0, x, hl, h, hm => by
    simp at hm
    subst hm
    simp [sumM]; omega
  | m :: ms, d :: ds, o + 1, x, hl, h, hm => by
    have := sumM_set ms ds o x (by simpa using hl) (by simpa using h) (by simpa using hm)
    simp only [List.set_cons_succ, sumM, List.getD_cons_succ]
    omega
theorem sumM_mem : ∀ (m : List Bool) (d : List Int) (v : Nat), m.length = d.length → v < m.length → m.getD v false = true → absI (d.getD v 0) ≤ sumM m d
  | [], d, v, _, h, _ => by simp at h
  | m :: ms, [], v, hl, _, _ => by simp at hl
  | m :: ms, d :: ds, 0, hl, h, hm => by
    simp at hm
    subst hm
    have := sumM_nonneg ms ds
    simp [sumM]; omega
  | m :: ms, d :: ds, v + 1, hl, h, hm => by
    have := sumM_mem ms ds v (by simpa using hl) (by simpa using h) (by simpa using hm)
    have := absI_nonneg d
    simp only [sumM, List.getD_cons_succ]
    split <;> omega
def sumA (d : List Int) : Int := (d.map absI).sum
theorem sumM_le : ∀ (m : List Bool) (d : List Int), sumM m d ≤ sumA d
  | [], d => by
    have : 0 ≤ sumA d := by
      induction d with
      | nil => simp [sumA]
      | cons x r ih => have := absI_nonneg x; simp [sumA] at ih ⊢; omega
    simpa [sumM] using this
  | m :: ms, [] => by simp [sumM, sumA]
  | m :: ms, d :: ds => by
    have := sumM_le ms ds
    have := absI_nonneg d
    simp only [sumM, sumA, List.map_cons, List.sum_cons] at *
    split <;> omega

/-- One branch, backward: the conduit's flow, and what the node draws carried on. -/
def stepB (cs : List Cn) (b : Int × Int) (s : List Int × List Int) : List Int × List Int :=
  (s.1.set b.1.toNat (signN (cs.getD b.1.toNat cn0) b.2 * s.2.getD b.2.toNat 0), s.2.set (otherN (cs.getD b.1.toNat cn0) b.2).toNat (s.2.getD (otherN (cs.getD b.1.toNat cn0) b.2).toNat 0 + s.2.getD b.2.toNat 0))
def backL (cs : List Cn) : List (Int × Int) → List Int × List Int → List Int × List Int
  | [], s => s
  | b :: r, s => stepB cs b (backL cs r s)
theorem backL_len (cs : List Cn) : ∀ (l : List (Int × Int)) (s : List Int × List Int), (backL cs l s).1.length = s.1.length ∧ (backL cs l s).2.length = s.2.length
  | [], s => ⟨rfl, rfl⟩
  | b :: r, s => by
    have := backL_len cs r s
    simp [backL, stepB, this]
theorem afterF_len (l : List (Int × Int)) : ∀ (m : List Bool), (afterF m l).length = m.length := by
  induction l with
  | nil => intro m; rfl
  | cons b r ih => intro m; show (afterF (m.set b.2.toNat true) r).length = _; rw [ih]; simp

/-- What is carried never exceeds all that is drawn. -/
theorem back_sum {n : Nat} {cs : List Cn} : ∀ (l : List (Int × Int)) (m : List Bool) (s : List Int × List Int), m.length = n → s.2.length = n → TreeOk n cs m l → sumM m (backL cs l s).2 ≤ sumA s.2
  | [], m, s, hm, hd, _ => sumM_le _ _
  | b :: r, m, s, hm, hd, ht => by
    obtain ⟨hb, ht⟩ := ht
    have ih := back_sum r (m.set b.2.toNat true) s (by simpa using hm) hd ht
    have hl := (backL_len cs r s).2
    have hv := hb.v0; have hv1 := hb.v1; have ho := hb.o0; have ho1 := hb.o1
    rw [sumM_mark m _ _ (by omega) (by omega) hb.new] at ih
    show sumM m ((backL cs r s).2.set _ _) ≤ _
    rw [sumM_set m _ _ _ (by omega) (by omega) hb.old]
    have := absI_add ((backL cs r s).2.getD (otherN (cs.getD b.1.toNat cn0) b.2).toNat 0) ((backL cs r s).2.getD b.2.toNat 0)
    omega

theorem tree_at {n : Nat} {cs : List Cn} : ∀ (l : List (Int × Int)) (m : List Bool) (i : Nat), TreeOk n cs m l → i < l.length → BrOk n cs (afterF m (l.take i)) (l.getD i (0, 0)) ∧ TreeOk n cs (afterF m (l.take (i + 1))) (l.drop (i + 1))
  | [], m, i, _, h => by simp at h
  | b :: r, m, 0, ht, _ => ⟨ht.1, ht.2⟩
  | b :: r, m, i + 1, ht, h => by
    have := tree_at r (m.set b.2.toNat true) i ht.2 (by simpa using h)
    exact this
theorem afterF_mono (l : List (Int × Int)) : ∀ (m : List Bool) (i : Nat), m.getD i false = true → (afterF m l).getD i false = true := by
  induction l with
  | nil => intro m i h; exact h
  | cons b r ih =>
    intro m i h
    refine ih _ i ?_
    rw [getD_set]; split
    · rfl
    · exact h
theorem afterF_snoc {m : List Bool} {l : List (Int × Int)} {i : Nat} (h : i < l.length) : afterF m (l.take (i + 1)) = (afterF m (l.take i)).set (l.getD i (0, 0)).2.toNat true := by
  have e : l.getD i (0, 0) = l[i] := by simp [List.getD_eq_getElem?_getD, h]
  rw [List.take_succ_eq_append_getElem h, e]
  unfold afterF
  rw [List.foldl_append]
  rfl
theorem backL_drop {cs : List Cn} {l : List (Int × Int)} {i : Nat} (h : i < l.length) (s : List Int × List Int) : backL cs (l.drop i) s = stepB cs (l.getD i (0, 0)) (backL cs (l.drop (i + 1)) s) := by
  have e : l.getD i (0, 0) = l[i] := by simp [List.getD_eq_getElem?_getD, h]
  rw [List.drop_eq_getElem_cons h, backL, e]
theorem absI_le {x B : Int} (h : absI x ≤ B) : -B ≤ x ∧ x ≤ B := by unfold absI at h; split at h <;> omega
theorem absI_of {x B : Int} (h : -B ≤ x ∧ x ≤ B) : absI x ≤ B := by unfold absI; split <;> omega
theorem sumA_le {B : Int} : ∀ (d : List Int), (∀ i, absI (d.getD i 0) ≤ B) → sumA d ≤ d.length * B
  | [], _ => by simp [sumA]
  | x :: r, h => by
    have h0 := h 0
    have := sumA_le r (fun i => by simpa using h (i + 1))
    simp only [sumA, List.map_cons, List.sum_cons, List.length_cons] at this ⊢
    simp only [List.getD_cons_zero] at h0
    rw [Int.natCast_add, Int.add_mul]
    omega
/-- What stands at a branch while the branches are walked backward. -/
theorem back_at {n : Nat} {cs : List Cn} {l : List (Int × Int)} {m : List Bool} {s : List Int × List Int} (hm : m.length = n) (hd : s.2.length = n) (ht : TreeOk n cs m l) {i : Nat} (hi : i < l.length) {S : Int} (hS : sumA s.2 ≤ S) :
    BrOk n cs (afterF m (l.take i)) (l.getD i (0, 0)) ∧
    (-S ≤ (backL cs (l.drop (i + 1)) s).2.getD (l.getD i (0, 0)).2.toNat 0 ∧ (backL cs (l.drop (i + 1)) s).2.getD (l.getD i (0, 0)).2.toNat 0 ≤ S) ∧
    (-S ≤ (backL cs (l.drop (i + 1)) s).2.getD (otherN (cs.getD (l.getD i (0, 0)).1.toNat cn0) (l.getD i (0, 0)).2).toNat 0 ∧ (backL cs (l.drop (i + 1)) s).2.getD (otherN (cs.getD (l.getD i (0, 0)).1.toNat cn0) (l.getD i (0, 0)).2).toNat 0 ≤ S) := by
  obtain ⟨hb, ht2⟩ := tree_at l m i ht hi
  have hlen : (afterF m (l.take (i + 1))).length = n := by rw [afterF_len]; exact hm
  have hsum := back_sum (l.drop (i + 1)) (afterF m (l.take (i + 1))) s hlen hd ht2
  have hl := (backL_len cs (l.drop (i + 1)) s).2
  have e := afterF_snoc (m := m) hi
  have hv := hb.v0; have hv1 := hb.v1; have ho := hb.o0; have ho1 := hb.o1
  have hml : (afterF m (l.take i)).length = n := by rw [afterF_len]; exact hm
  have mv : (afterF m (l.take (i + 1))).getD (l.getD i (0, 0)).2.toNat false = true := by
    rw [e, getD_set, if_pos]
    exact ⟨rfl, by omega⟩
  have mo : (afterF m (l.take (i + 1))).getD (otherN (cs.getD (l.getD i (0, 0)).1.toNat cn0) (l.getD i (0, 0)).2).toNat false = true := by
    rw [e, getD_set]; split
    · rfl
    · exact hb.old
  have b1 := sumM_mem (afterF m (l.take (i + 1))) (backL cs (l.drop (i + 1)) s).2 _ (by omega) (by omega) mv
  have b2 := sumM_mem (afterF m (l.take (i + 1))) (backL cs (l.drop (i + 1)) s).2 _ (by omega) (by omega) mo
  exact ⟨hb, absI_le (Int.le_trans b1 (Int.le_trans hsum hS)), absI_le (Int.le_trans b2 (Int.le_trans hsum hS))⟩
theorem sign_bd {c : Cn} {v x S : Int} (h : -S ≤ x ∧ x ≤ S) : -S ≤ signN c v * x ∧ signN c v * x ≤ S := by
  unfold signN; split <;> omega
/-- All flows are bounded by what is drawn. -/
theorem back_flow {n : Nat} {cs : List Cn} {S : Int} : ∀ (l : List (Int × Int)) (m : List Bool) (s : List Int × List Int), m.length = n → s.2.length = n → TreeOk n cs m l → sumA s.2 ≤ S → (∀ i, -S ≤ s.1.getD i 0 ∧ s.1.getD i 0 ≤ S) →
    ∀ i, -S ≤ (backL cs l s).1.getD i 0 ∧ (backL cs l s).1.getD i 0 ≤ S
  | [], m, s, hm, hd, ht, hS, hf, i => hf i
  | b :: r, m, s, hm, hd, ht, hS, hf, i => by
    have ih := back_flow r (m.set b.2.toNat true) s (by simpa using hm) hd ht.2 hS hf
    have hb := back_at (i := 0) hm hd ht (by simp) hS
    show -S ≤ ((backL cs r s).1.set _ _).getD i 0 ∧ _
    rw [backL, stepB]
    rw [getD_setI]
    split
    · exact sign_bd hb.2.1
    · exact ih i

/-- The heads, forward. -/
def stepH (cs : List Cn) (f : List Int) (b : Int × Int) (h : List Int) : List Int :=
  h.set b.2.toNat (h.getD (otherN (cs.getD b.1.toNat cn0) b.2).toNat 0 - lossF (cs.getD b.1.toNat cn0).res (signN (cs.getD b.1.toNat cn0) b.2 * f.getD b.1.toNat 0))
def foreL (cs : List Cn) (f : List Int) : List (Int × Int) → List Int → List Int
  | [], h => h
  | b :: r, h => foreL cs f r (stepH cs f b h)
theorem foreL_len (cs : List Cn) (f : List Int) : ∀ (l : List (Int × Int)) (h : List Int), (foreL cs f l h).length = h.length
  | [], h => rfl
  | b :: r, h => by rw [foreL, foreL_len cs f r]; simp [stepH]
theorem foreL_drop {cs : List Cn} {f : List Int} {l : List (Int × Int)} {i : Nat} (h : i < l.length) (x : List Int) : foreL cs f (l.drop i) x = foreL cs f (l.drop (i + 1)) (stepH cs f (l.getD i (0, 0)) x) := by
  have e : l.getD i (0, 0) = l[i] := by simp [List.getD_eq_getElem?_getD, h]
  rw [List.drop_eq_getElem_cons h, foreL, e]
end Go.Tr

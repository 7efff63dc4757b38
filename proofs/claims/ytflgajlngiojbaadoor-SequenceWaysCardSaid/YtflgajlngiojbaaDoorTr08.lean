/- Contracts of chapter 7: which plans are valid, by the program and by the reference. Conditions: none. -/
import Derived.Test.YtflgajlngiojbaaDoorTr07
set_option linter.unusedSectionVars false
set_option linter.unnecessarySimpa false
set_option linter.unusedVariables false
set_option linter.unusedSimpArgs false

namespace Go.Tr
open Go Go.Proofs
set_option maxRecDepth 20000
set_option maxHeartbeats 8000000

theorem toList_loop (bs : ByteArray) : ∀ (n i : Nat) (r : List UInt8), n = bs.size - i → ByteArray.toList.loop bs i r = r.reverse ++ bs.data.toList.drop i := by
  intro n
  induction n with
  | zero =>
    intro i r h
    unfold ByteArray.toList.loop
    have hz : bs.data.toList.length = bs.size := rfl
    rw [if_neg (by omega), List.drop_of_length_le (by omega), List.append_nil]
  | succ n ih =>
    intro i r h
    unfold ByteArray.toList.loop
    have hz : bs.data.toList.length = bs.size := rfl
    rw [if_pos (by omega), ih (i + 1) _ (by omega), List.drop_eq_getElem_cons (show i < bs.data.toList.length by omega)]
    have : bs.get! i = bs.data.toList[i]'(by omega) := by
      show bs.data[i]! = _
      rw [getElem!_pos bs.data i (by show i < bs.size; omega)]
      rfl
    rw [this]; simp
theorem toList_eq (bs : ByteArray) : bs.toList = bs.data.toList := by
  unfold ByteArray.toList
  rw [toList_loop bs (bs.size) 0 [] (by omega)]; simp
theorem toList_inj {a b : ByteArray} : a.toList = b.toList ↔ a = b := by
  rw [toList_eq, toList_eq]
  exact ⟨fun h => by cases a; cases b; simp at h; simp [h], fun h => by rw [h]⟩
theorem keyS (a b : ByteArray) : opEv.keyEq (.string a) (.string b) = (b.toList == a.toList) := by
  have h : (a == b) = true ↔ a = b := by
    cases a with | mk a => cases b with | mk b =>
    show (a == b) = true ↔ _
    rw [beq_iff_eq]
    exact ⟨fun h => h ▸ rfl, fun h => by cases h; rfl⟩
  show (a == b) = _
  rw [Bool.eq_iff_iff, h, beq_iff_eq, toList_inj]
  exact ⟨fun h => h.symm, fun h => h.symm⟩
theorem bif_vb (b x y : Bool) : vb (bif b then x else y) = bif b then vb x else vb y := by cases b <;> rfl
theorem ave_tup2 {k : Nat} {a b a' b' : AV} (ha : AVE k a a') (hb : AVE k b b') : AVE (k + 1) (.tuple [a, b]) (.tuple [a', b']) := by
  refine ⟨rfl, fun i x y h1 h2 => ?_⟩
  match i, h1, h2 with
  | 0, h1, h2 => cases h1; cases h2; exact ha
  | 1, h1, h2 => cases h1; cases h2; exact hb

/-- The first of some strings, as a slice of the slice of all. -/
theorem S97t (l : List ByteArray) (hl : l.length ≤ 9223372036854775807) (x : ByteArray) {k : Nat} (hk : k ≤ l.length) {f : Nat → List AV} (h : ∀ i, f i = [sv (l.getD i ByteArray.empty)]) : SP 97 [.rslice 1 k f, sv x] (vb (hasS (l.take k) x)) false := by
  have h1 : (l.take k).length = k := by simp; omega
  have key : ∀ i, i < k → f i = [sv ((l.take k).getD i ByteArray.empty)] := fun i hi => by
    rw [h i]
    simp [List.getD, hi]
  refine (S97 (l.take k) (by omega) x).argsD rfl fun i y z hy hz => ?_
  match i, hy, hz with
  | 0, hy, hz => cases hy; cases hz; exact .inr ⟨1, AVF_rows h1.symm key 0⟩
  | 1, hy, hz => cases hy; cases hz; exact .inl rfl
theorem S130t (l : List ByteArray) (hl : l.length ≤ 9223372036854775807) (x : ByteArray) {k : Nat} (hk : k ≤ l.length) {f : Nat → List AV} (h : ∀ i, f i = [sv (l.getD i ByteArray.empty)]) : SP 130 [.rslice 1 k f, sv x] (vb (hasS (l.take k) x)) false := by
  have h1 : (l.take k).length = k := by simp; omega
  have key : ∀ i, i < k → f i = [sv ((l.take k).getD i ByteArray.empty)] := fun i hi => by
    rw [h i]
    simp [List.getD, hi]
  refine (S130 (l.take k) (by omega) x).argsD rfl fun i y z hy hz => ?_
  match i, hy, hz with
  | 0, hy, hz => cases hy; cases hz; exact .inr ⟨1, AVF_rows h1.symm key 0⟩
  | 1, hy, hz => cases hy; cases hz; exact .inl rfl

/-- What the limits of Few leave. -/
structure FewP (p : Pln) : Prop where
  sig : p.sig.length ≤ 7
  steps : p.steps.length ≤ 12
  size : ∀ i, i < p.sig.length → (p.sig.getD i ByteArray.empty).size ≤ 30
  name : ∀ i, i < p.steps.length → (p.steps.getD i stp0).name.size ≤ 30
  exits : ∀ i, i < p.steps.length → (p.steps.getD i stp0).exits.length ≤ 12

def nameE (s : ByteArray) (seen : Bool) : Int := firstOf [if nameB s then 0 else 4, if !seen then 0 else 5]
def stepE (p : Pln) (s : Stp) (seen : Bool) : Int :=
  if firstOf [if nameB s.name then 0 else 4, if !seen then 0 else 5, setsE p.sig.length [s.needs], idxsE p.steps.length [s.trip], if decide (0 ≤ s.wait ∧ s.wait ≤ 10000) then 0 else 2] ≠ 0 then
    firstOf [if nameB s.name then 0 else 4, if !seen then 0 else 5, setsE p.sig.length [s.needs], idxsE p.steps.length [s.trip], if decide (0 ≤ s.wait ∧ s.wait ≤ 10000) then 0 else 2]
  else if s.wait = 0 then steadyE p.steps.length s else movingE p.sig.length p.steps.length s
theorem step_form (p : Pln) (s : Stp) (seen : Bool) : stepE p s seen = if ¬ firstOf [nameE s.name seen, setE p.sig.length s.needs, idxE p.steps.length s.trip] = 0 then firstOf [nameE s.name seen, setE p.sig.length s.needs, idxE p.steps.length s.trip]
    else if 0 ≤ s.wait ∧ s.wait ≤ 10000 then (if s.wait = 0 then steadyE p.steps.length s else movingE p.sig.length p.steps.length s) else 2 := by
  unfold stepE nameE
  rw [sets1, idxs1]
  generalize (if nameB s.name = true then (0 : Int) else 4) = A
  generalize (if (!seen) = true then (0 : Int) else 5) = B
  generalize setE p.sig.length s.needs = C
  generalize idxE p.steps.length s.trip = D
  by_cases h : 0 ≤ s.wait ∧ s.wait ≤ 10000
  · rw [if_pos h, decide_eq_true h]
    unfold firstOf firstOf firstOf firstOf firstOf firstOf
    by_cases hA : A = 0 <;> by_cases hB : B = 0 <;> by_cases hC : C = 0 <;> by_cases hD : D = 0 <;> simp [hA, hB, hC, hD]
  · rw [if_neg h, decide_eq_false h]
    unfold firstOf firstOf firstOf firstOf firstOf firstOf
    by_cases hA : A = 0 <;> by_cases hB : B = 0 <;> by_cases hC : C = 0 <;> by_cases hD : D = 0 <;> simp [hA, hB, hC, hD]
theorem S99 (p : Pln) (s : Stp) (seen : Bool) (hn : p.sig.length ≤ 7) (hm : p.steps.length ≤ 1000) (he : s.exits.length ≤ 1000) (hs : s.name.size ≤ 1000) : SP 99 [planA p, stepA s, vb seen] (i64 (stepE p s seen)) false := by
  have h96 := S96 s.name (by omega)
  have h127 := S127 p s hm he
  have h128 := S128 p s hn hm
  have h98 := @S98_1 p hn s.needs
  have h68 := @S68_1 p hm s.trip
  have h78 := S78 s.wait 0 10000
  refine sound (d := 2) tok2 mixed2 Tryd.func99 (by kernel_rfl) (by kernel_rfl) ?_
  conv => whnf
  refine ⟨[], by kernel_rfl, ?_⟩
  conv => whnf
  refine .inl ⟨_, _, byX rfl (Sound1.pl (h96) rfl), ?_⟩
  conv => whnf
  refine .inl ⟨_, _, byX rfl (Sound1.pl (S69 _ _) rfl), ?_⟩
  conv => whnf
  refine .inl ⟨_, _, byX rfl (Sound1.pl (S69 _ _) rfl), ?_⟩
  conv => whnf
  refine .inl ⟨_, _, byX rfl (Sound1.pl (h98 rfl) rfl), ?_⟩
  conv => whnf
  refine .inl ⟨_, _, byX rfl (Sound1.pl (h68 rfl) rfl), ?_⟩
  conv => whnf
  refine .inl ⟨_, _, byX rfl (Sound1.pl (h78) rfl), ?_⟩
  conv => whnf
  refine .inl ⟨_, _, byX rfl (Sound1.pl (S69 _ _) rfl), ?_⟩
  conv => whnf
  refine .inl ⟨_, _, byX rfl (Sound1.pl (S83_5 _ _ _ _ _ ⟨rfl, rfl, rfl, rfl, rfl⟩) rfl), ?_⟩
  conv => whnf
  refine ifB_bne (fun w1 => ?_) (fun w1 => ?_)
  · conv => whnf
    refine ⟨?_, nofun⟩
    refine endi (b := stepE p s seen) (Eq.trans ?_ (if_pos w1).symm)
    rfl
  · conv => whnf
    refine ifB_beq (fun w2 => ?_) (fun w2 => ?_)
    · conv => whnf
      refine .inl ⟨_, _, byX rfl (Sound1.pl (h127) rfl), ?_⟩
      conv => whnf
      refine ⟨?_, nofun⟩
      refine endi (b := stepE p s seen) (Eq.trans ?_ (if_neg (not_not_intro w1)).symm)
      rw [if_pos w2]
    · conv => whnf
      refine .inl ⟨_, _, byX rfl (Sound1.pl (h128) rfl), ?_⟩
      conv => whnf
      refine ⟨?_, nofun⟩
      refine endi (b := stepE p s seen) (Eq.trans ?_ (if_neg (not_not_intro w1)).symm)
      rw [if_neg w2]

/-- The names of the first steps. -/
def hasN (p : Pln) (k : Nat) (s : ByteArray) : Bool := hasS ((p.steps.map Stp.name).take k) s
def sigAt (p : Pln) (i : Nat) : Int := nameE (p.sig.getD i ByteArray.empty) (hasS (p.sig.take i) (p.sig.getD i ByteArray.empty))
def stepAt (p : Pln) (i : Nat) : Int := stepE p (p.steps.getD i stp0) (hasN p i (p.steps.getD i stp0).name)
def headE (p : Pln) : Int := firstOf [setsE p.sig.length [p.start], if decide ((p.steps.length : Int) > 0) then 0 else 10, if decide ((p.steps.length : Int) ≤ 10) then 0 else 8]
/-- Where a plan is wrong, and how. -/
def checkP (p : Pln) : Int × Int :=
  if p.sig.length > 5 then (0, 8)
  else if (scan (sigAt p) p.sig.length 0).2 ≠ 0 then (0, (scan (sigAt p) p.sig.length 0).2)
  else if headE p ≠ 0 then (0, headE p)
  else if (scan (stepAt p) p.steps.length 0).2 ≠ 0 then scan (stepAt p) p.steps.length 0
  else (0, if (p.steps.getD 0 stp0).safe && decide ((p.steps.getD 0 stp0).wait = 0) then 0 else 20)
abbrev t2 (a b : Int) : AV := .tuple [i64 a, i64 b]
theorem check_1 {p : Pln} (h : p.sig.length > 5) : checkP p = (0, 8) := if_pos h
theorem check_2 {p : Pln} {k : Nat} {e : Int} (h : ¬ p.sig.length > 5) (hk : k < p.sig.length) (hf : ∀ j, j < k → sigAt p j = 0) (he : sigAt p k = e) (h0 : ¬ e = 0) : checkP p = (0, e) := by
  unfold checkP
  rw [if_neg h, scan_at hk hf (by rw [he]; exact h0), he]
  exact if_pos h0
theorem check_3 {p : Pln} (h : ¬ p.sig.length > 5) (hf : ∀ j, j < p.sig.length → sigAt p j = 0) (h0 : ¬ headE p = 0) : checkP p = (0, headE p) := by
  unfold checkP
  rw [if_neg h, scan_all hf, if_neg (fun e => e rfl), if_pos h0]
theorem check_4 {p : Pln} {k : Nat} {e : Int} (h : ¬ p.sig.length > 5) (hf : ∀ j, j < p.sig.length → sigAt p j = 0) (hh : headE p = 0) (hk : k < p.steps.length) (hg : ∀ j, j < k → stepAt p j = 0) (he : stepAt p k = e) (h0 : ¬ e = 0) : checkP p = (↑k, e) := by
  unfold checkP
  rw [if_neg h, scan_all hf, if_neg (fun e => e rfl), if_neg (not_not_intro hh), scan_at hk hg (by rw [he]; exact h0), he, if_pos h0]
theorem check_5 {p : Pln} (h : ¬ p.sig.length > 5) (hf : ∀ j, j < p.sig.length → sigAt p j = 0) (hh : headE p = 0) (hg : ∀ j, j < p.steps.length → stepAt p j = 0) :
    checkP p = (0, if (p.steps.getD 0 stp0).safe && decide ((p.steps.getD 0 stp0).wait = 0) then 0 else 20) := by
  unfold checkP
  rw [if_neg h, scan_all hf, if_neg (fun e => e rfl), if_neg (not_not_intro hh), scan_all hg, if_neg (fun e => e rfl)]
theorem first3_iff {a b c : Int} : firstOf [a, b, c] = 0 ↔ a = 0 ∧ b = 0 ∧ c = 0 := by
  unfold firstOf firstOf firstOf firstOf
  by_cases h : a = 0 <;> by_cases h2 : b = 0 <;> by_cases h3 : c = 0 <;> simp [h, h2, h3]
theorem head_len {p : Pln} (hh : headE p = 0) : 0 < p.steps.length := by
  unfold headE at hh
  rw [first3_iff] at hh
  have := hh.2.1
  by_cases h : (p.steps.length : Int) > 0
  · omega
  · rw [decide_eq_false h] at this; cases this

/-- The names of the steps. -/
def nms (p : Pln) : List ByteArray := p.steps.map Stp.name
theorem hasN_succ {p : Pln} {k : Nat} (hk : k < p.steps.length) (s : ByteArray) : hasN p (k + 1) s = (hasN p k s || (p.steps.getD k stp0).name.toList == s.toList) := by
  unfold hasN hasS
  rw [List.take_add_one, List.any_append]
  congr 1
  simp [List.getD, hk]
theorem endp {a b : Int} {q : Int × Int} (h : q = (a, b)) : AVE 5 (t2 a b) (t2 q.1 q.2) := by
  rw [h]
  exact ave_tup2 (k := 4) rfl rfl
theorem head_form (p : Pln) : headE p = if ¬ setE p.sig.length p.start = 0 then setE p.sig.length p.start else if p.steps.length = 0 then 10 else if p.steps.length > 10 then 8 else 0 := by
  unfold headE
  rw [sets1]
  unfold firstOf firstOf firstOf firstOf
  by_cases h : setE p.sig.length p.start = 0
  · rw [if_pos h, if_neg (not_not_intro h)]
    by_cases h2 : p.steps.length = 0
    · rw [if_pos h2, decide_eq_false (by omega)]; rfl
    · rw [if_neg h2, decide_eq_true (by omega)]
      by_cases h3 : p.steps.length > 10
      · rw [if_pos h3, decide_eq_false (by omega)]; rfl
      · rw [if_neg h3, decide_eq_true (by omega)]; rfl
  · rw [if_neg h, if_pos h]
theorem nms_row {p : Pln} {k : Nat} (hk : k < p.steps.length) (i : Nat) (h : i < k + 1) : [sv ((nms p).getD i ByteArray.empty)] = if i < k then [sv ((nms p).getD (0 + i) ByteArray.empty)] else List.take 1 (List.drop ((i - k) * 1) [sv (p.steps.getD k stp0).name]) := by
  rw [Nat.zero_add]
  by_cases hi : i < k
  · rw [if_pos hi]
  · have : i = k := by omega
    subst this
    rw [if_neg hi]; simp [nms, List.getD_eq_getElem?_getD, hk]
theorem S53 (p : Pln) (hp : FewP p) : SP 53 [planA p] (t2 (checkP p).1 (checkP p).2) false := by
  have hn := hp.sig
  have hm := hp.steps
  refine sound (d := 2) tok2 mixed2 Tryd.func53 (by kernel_rfl) (by kernel_rfl) ?_
  conv => whnf
  refine ifB_dec (fun w1 => ?_) (fun w1 => ?_)
  · conv => whnf
    refine ⟨?_, nofun⟩
    exact endp (check_1 (p := p) (by omega))
  · conv => whnf
    refine ⟨[], [4, 22, 23, 24], fun st mq => ∃ (k : Nat), (k ≤ p.sig.length) ∧ (∀ j, j < k → sigAt p j = 0) ∧ st = ⟨[(4, .optr 1 0 0 0), (22, strs p.sig), (23, i64 p.sig.length), (24, i64 k)], ⟨[⟨3, 1, fun _ => planC p, 0, false, true, true⟩, ⟨3, 1, fun _ => planC p, 0, false, true, true⟩], [], none, 0⟩, []⟩ ∧ mq = p.sig.length - k,
      ⟨_, _, ⟨0, by omega, inv_none, rfl, rfl⟩, ⟨⟨.inl rfl, rfl, rfl, rfl⟩, ⟨⟨rfl, rfl, rfl, rfl, fun _ => rfl, fun _ _ => .inl rfl⟩, ⟨⟨rfl, rfl, rfl, rfl, fun _ => rfl, fun _ _ => .inl rfl⟩, trivial⟩⟩, trivial⟩⟩, ?_⟩
    rintro s0 m0 ⟨k, hk, hf, rfl, hmeas⟩
    by_cases hlt : k < p.sig.length
    · have hz := hp.size k hlt
      have h96 := S96 (p.sig.getD (k : Int).toNat ByteArray.empty) (by show (p.sig.getD k ByteArray.empty).size ≤ _; omega)
      have h97 := @S97t p.sig (by omega) (p.sig.getD (k : Int).toNat ByteArray.empty) k (by omega)
      conv => whnf
      conv => whnf
      refine ifB_dec (fun w2 => ?_) (fun w2 => ?_)
      · conv => whnf
        conv => whnf
        refine ⟨⟨(by omega), (by omega)⟩, ?_⟩
        conv => whnf
        conv => whnf
        refine ⟨[], by kernel_rfl, ?_⟩
        conv => whnf
        conv => whnf
        refine .inl ⟨_, _, byX rfl (Sound1.pl (h96) rfl), ?_⟩
        conv => whnf
        conv => whnf
        refine .inl ⟨_, _, byX rfl (Sound1.pl (S69 _ _) rfl), ?_⟩
        conv => whnf
        conv => whnf
        refine ⟨⟨(by omega), ⟨(by omega), (by omega)⟩⟩, ?_⟩
        conv => whnf
        conv => whnf
        refine .inl ⟨_, _, byX rfl (Sound1.pl (h97 (fun _ => rfl)) rfl), ?_⟩
        conv => whnf
        conv => whnf
        refine .inl ⟨_, _, byX rfl (Sound1.pl (S69 _ _) rfl), ?_⟩
        conv => whnf
        conv => whnf
        refine .inl ⟨_, _, byX rfl (Sound1.pl (S83_2 _ _ ⟨rfl, rfl⟩) rfl), ?_⟩
        conv => whnf
        conv => whnf
        refine ifB_bne (fun w3 => ?_) (fun w3 => ?_)
        · conv => whnf
          conv => whnf
          refine ⟨?_, nofun⟩
          exact endp (check_2 (by omega) hlt hf rfl (by first | exact w2 | exact w3))
        · conv => whnf
          conv => whnf
          refine ⟨inK64 (by omega) (by omega), ?_⟩
          conv => whnf
          conv => whnf
          refine ⟨_, _, ⟨⟨k + 1, by omega, inv_next hf (by first | exact w2 | exact w3), rfl, rfl⟩, by omega⟩, ⟨⟨.inl rfl, rfl, rfl, rfl⟩, ⟨⟨rfl, rfl, rfl, rfl, fun _ => rfl, fun _ _ => .inl rfl⟩, ⟨⟨rfl, rfl, rfl, rfl, fun _ => rfl, fun _ _ => .inl rfl⟩, trivial⟩⟩, trivial⟩⟩
      · (exfalso; omega)
    · have e : k = p.sig.length := by omega
      subst e
      have h98 := @S98_1 p hn p.start
      conv => whnf
      conv => whnf
      refine ifB_dec (fun w2 => ?_) (fun w2 => ?_)
      · (exfalso; omega)
      · conv => whnf
        conv => whnf
        refine ⟨[], by kernel_rfl, ?_⟩
        conv => whnf
        conv => whnf
        refine .inl ⟨_, _, byX rfl (Sound1.pl (h98 rfl) rfl), ?_⟩
        conv => whnf
        conv => whnf
        refine .inl ⟨_, _, byX rfl (Sound1.pl (S69 _ _) rfl), ?_⟩
        conv => whnf
        conv => whnf
        refine .inl ⟨_, _, byX rfl (Sound1.pl (S69 _ _) rfl), ?_⟩
        conv => whnf
        conv => whnf
        refine .inl ⟨_, _, byX rfl (Sound1.pl (S83_3 _ _ _ ⟨rfl, rfl, rfl⟩) rfl), ?_⟩
        conv => whnf
        conv => whnf
        refine ifB_bne (fun w3 => ?_) (fun w3 => ?_)
        · conv => whnf
          conv => whnf
          refine ⟨?_, nofun⟩
          exact endp (check_3 (by omega) hf (by first | exact w2 | exact w3))
        · have hh : headE p = 0 := by first | exact w2 | exact w3
          conv => whnf
          conv => whnf
          refine ⟨[], [4, 9, 73, 74, 75], fun st mq => ∃ (k : Nat) (H : Value → Bool) (G : Value → Bool) (F2 : Nat → List AV) (F3 : Nat → List AV), (k ≤ p.steps.length) ∧ (∀ s, G (.string s) = hasN p k s) ∧ (∀ j, j < k → stepAt p j = 0) ∧ st = ⟨[(4, .optr 1 0 0 0), (9, .omap 0), (73, stepsA p.steps), (74, i64 p.steps.length), (75, i64 k)], ⟨[⟨3, 1, fun _ => planC p, 0, false, true, true⟩, ⟨3, 1, fun _ => planC p, 0, false, true, true⟩, ⟨1, 1, F2, 0, false, true, false⟩, ⟨1, 3, F3, 0, false, true, false⟩], [⟨.str, 4, H, fun v => vb (G v), false, none, 0, .top⟩], none, 0⟩, []⟩ ∧ mq = p.steps.length - k,
            ⟨_, _, ⟨0, fun _ => false, fun _ => false, _, _, by omega, fun _ => rfl, inv_none, rfl, rfl⟩, ⟨⟨.inl rfl, rfl, rfl, rfl⟩, ⟨⟨rfl, rfl, rfl, rfl, fun _ => rfl, fun _ _ => .inl rfl⟩, ⟨⟨rfl, rfl, rfl, rfl, fun _ => rfl, fun _ _ => .inl rfl⟩, ⟨⟨rfl, rfl, rfl, rfl, fun _ => rfl, fun _ _ => .inl rfl⟩, ⟨⟨rfl, rfl, rfl, rfl, fun _ => rfl, fun _ _ => .inl rfl⟩, trivial⟩⟩⟩⟩, ⟨⟨rfl, rfl, rfl, trivial, .inl rfl, fun _ => ⟨rfl, .inl rfl⟩⟩, trivial⟩⟩⟩, ?_⟩
          rintro s0 m0 ⟨k, H, G, F2, F3, hk, hG, hg, rfl, hmeas⟩
          by_cases hlt : k < p.steps.length
          · have hz := hp.name k hlt
            have hx := hp.exits k hlt
            have h99 := S99 p (p.steps.getD (k : Int).toNat stp0) (G (.string (p.steps.getD (k : Int).toNat stp0).name)) hn (by omega) (by show (p.steps.getD k stp0).exits.length ≤ _; omega) (by show (p.steps.getD k stp0).name.size ≤ _; omega)
            rw [show stepE p (p.steps.getD (k : Int).toNat stp0) (G (.string (p.steps.getD (k : Int).toNat stp0).name)) = stepAt p k by rw [hG]; rfl] at h99
            have hG2 : ∀ s, (bif opEv.keyEq (.string s) (.string (p.steps.getD (k : Int).toNat stp0).name) then true else G (.string s)) = hasN p (k + 1) s := fun s => by
              rw [keyS, hG, hasN_succ hlt, show (k : Int).toNat = k from rfl]
              generalize ((p.steps.getD k stp0).name.toList == s.toList) = A
              generalize hasN p k s = B
              cases A <;> cases B <;> rfl
            conv => whnf
            conv => whnf
            conv => whnf
            refine ifB_dec (fun w4 => ?_) (fun w4 => ?_)
            · conv => whnf
              conv => whnf
              conv => whnf
              refine ⟨⟨(by omega), (by omega)⟩, ?_⟩
              conv => whnf
              conv => whnf
              conv => whnf
              refine .inl ⟨_, _, byX rfl (Sound1.pl (h99) rfl), ?_⟩
              conv => whnf
              conv => whnf
              conv => whnf
              refine ifB_bne (fun w5 => ?_) (fun w5 => ?_)
              · conv => whnf
                conv => whnf
                conv => whnf
                refine ⟨?_, nofun⟩
                exact endp (check_4 (by omega) hf hh hlt hg rfl (by first | exact w5 | exact w4 | exact w3 | exact w2))
              · conv => whnf
                conv => whnf
                conv => whnf
                refine ⟨inK64 (by omega) (by omega), ?_⟩
                conv => whnf
                conv => whnf
                conv => whnf
                refine ⟨_, _, ⟨⟨k + 1, fun v => Bool.or (H v) (opEv.keyEq v (.string (p.steps.getD (k : Int).toNat stp0).name)), fun v => bif opEv.keyEq v (.string (p.steps.getD (k : Int).toNat stp0).name) then true else G v, _, _, by omega, hG2, inv_next hg (by first | exact w5 | exact w4 | exact w3 | exact w2), rfl, rfl⟩, by omega⟩, ⟨⟨.inl rfl, rfl, rfl, rfl⟩, ⟨⟨rfl, rfl, rfl, rfl, fun _ => rfl, fun _ _ => .inl rfl⟩, ⟨⟨rfl, rfl, rfl, rfl, fun _ => rfl, fun _ _ => .inl rfl⟩, ⟨⟨rfl, rfl, rfl, rfl, fun _ => rfl, fun _ _ => .inl rfl⟩, ⟨⟨rfl, rfl, rfl, rfl, fun _ => rfl, fun _ _ => .inl rfl⟩, trivial⟩⟩⟩⟩, ⟨⟨rfl, rfl, rfl, trivial, .inl rfl, fun v => And.imp id Or.inl (⟨rfl, bif_vb _ _ _⟩)⟩, trivial⟩⟩⟩
            · (exfalso; omega)
          · have e : k = p.steps.length := by omega
            subst e
            have h100 := S100 (p.steps.getD 0 stp0)
            have h0 := head_len hh
            conv => whnf
            conv => whnf
            conv => whnf
            refine ifB_dec (fun w4 => ?_) (fun w4 => ?_)
            · (exfalso; omega)
            · conv => whnf
              conv => whnf
              conv => whnf
              refine ⟨⟨(by omega), (by omega)⟩, ?_⟩
              conv => whnf
              conv => whnf
              conv => whnf
              refine .inl ⟨_, _, byX rfl (Sound1.pl (h100) rfl), ?_⟩
              conv => whnf
              conv => whnf
              conv => whnf
              refine .inl ⟨_, _, byX rfl (Sound1.pl (S69 _ _) rfl), ?_⟩
              conv => whnf
              conv => whnf
              conv => whnf
              refine ⟨?_, nofun⟩
              exact endp (check_5 (by omega) hf hh hg)
theorem S104 (s : ByteArray) (hs : s.size ≤ 1000) (l : List ByteArray) (hl : l.length ≤ 1000) {k : Nat} (hk : k ≤ l.length) {f : Nat → List AV} (h : ∀ i, f i = [sv (l.getD i ByteArray.empty)]) : SP 104 [sv s, .rslice 1 k f] (i64 (nameE s (hasS (l.take k) s))) false := by
  have h129 := S129 s (by omega)
  have h130 := @S130t l (by omega) s k hk f h
  refine sound (d := 2) tok2 mixed2 Tryd.func104 (by kernel_rfl) (by kernel_rfl) ?_
  unfold nameE
  conv => whnf
  refine .inl ⟨_, _, byX rfl (Sound1.pl (h129) rfl), ?_⟩
  conv => whnf
  refine ifB_not ?_
  conv => whnf
  refine ifB_intro (fun w1 => ?_) (fun w1 => ?_)
  · conv => whnf
    refine .inl ⟨_, _, byX rfl (Sound1.pl (h130) rfl), ?_⟩
    conv => whnf
    refine ifB_intro (fun w2 => ?_) (fun w2 => ?_)
    · conv => whnf
      refine ⟨?_, nofun⟩
      refine endi ?_
      rw [w1, w2]; rfl
    · conv => whnf
      refine ⟨?_, nofun⟩
      refine endi ?_
      rw [w1, w2]; rfl
  · conv => whnf
    refine ⟨?_, nofun⟩
    refine endi ?_
    rw [w1]; rfl
theorem S57 (p : Pln) (hp : FewP p) : SP 57 [planA p] (t2 (checkP p).1 (checkP p).2) false := by
  have hn := hp.sig
  have hm := hp.steps
  refine sound (d := 2) tok2 mixed2 Tryd.func57 (by kernel_rfl) (by kernel_rfl) ?_
  conv => whnf
  refine ifB_dec (fun w1 => ?_) (fun w1 => ?_)
  · conv => whnf
    refine ⟨?_, nofun⟩
    exact endp (check_1 (p := p) (by omega))
  · conv => whnf
    refine ⟨[], [1, 4], fun st mq => ∃ (k : Nat), (k ≤ p.sig.length) ∧ (∀ j, j < k → sigAt p j = 0) ∧ st = ⟨[(1, .optr 0 0 0 0), (4, i64 k)], ⟨[⟨3, 1, fun _ => planC p, 0, false, true, true⟩], [], none, 0⟩, []⟩ ∧ mq = p.sig.length - k,
      ⟨_, _, ⟨0, by omega, inv_none, rfl, rfl⟩, ⟨⟨.inl rfl, rfl, rfl, rfl⟩, ⟨⟨rfl, rfl, rfl, rfl, fun _ => rfl, fun _ _ => .inl rfl⟩, trivial⟩, trivial⟩⟩, ?_⟩
    rintro s0 m0 ⟨k, hk, hf, rfl, hmeas⟩
    by_cases hlt : k < p.sig.length
    · have hz := hp.size k hlt
      have h104 := @S104 (p.sig.getD (k : Int).toNat ByteArray.empty) (by show (p.sig.getD k ByteArray.empty).size ≤ _; omega) p.sig (by omega) ((k : Int) - 0).toNat (by omega)
      conv => whnf
      conv => whnf
      refine ifB_dec (fun w2 => ?_) (fun w2 => ?_)
      · conv => whnf
        conv => whnf
        refine ⟨[], by kernel_rfl, ?_⟩
        conv => whnf
        conv => whnf
        refine ⟨⟨(by omega), (by omega)⟩, ?_⟩
        conv => whnf
        conv => whnf
        refine ⟨⟨(by omega), ⟨(by omega), (by omega)⟩⟩, ?_⟩
        conv => whnf
        conv => whnf
        refine .inl ⟨_, _, byX rfl (Sound1.pl (h104 (fun _ => rfl)) rfl), ?_⟩
        conv => whnf
        conv => whnf
        refine ifB_bne (fun w3 => ?_) (fun w3 => ?_)
        · conv => whnf
          conv => whnf
          refine ⟨?_, nofun⟩
          exact endp (check_2 (by omega) hlt hf rfl (by first | exact w2 | exact w3))
        · conv => whnf
          conv => whnf
          refine ⟨inK64 (by omega) (by omega), ?_⟩
          conv => whnf
          conv => whnf
          refine ⟨_, _, ⟨⟨k + 1, by omega, inv_next hf (by first | exact w2 | exact w3), rfl, rfl⟩, by omega⟩, ⟨⟨.inl rfl, rfl, rfl, rfl⟩, ⟨⟨rfl, rfl, rfl, rfl, fun _ => rfl, fun _ _ => .inl rfl⟩, trivial⟩, trivial⟩⟩
      · (exfalso; omega)
    · have e : k = p.sig.length := by omega
      subst e
      have h105 := S105 p hn p.start
      conv => whnf
      conv => whnf
      refine ifB_dec (fun w2 => ?_) (fun w2 => ?_)
      · (exfalso; omega)
      · conv => whnf
        conv => whnf
        refine .inl ⟨_, _, byX rfl (Sound1.pl (h105) rfl), ?_⟩
        conv => whnf
        conv => whnf
        refine ifB_bne (fun w3 => ?_) (fun w3 => ?_)
        · conv => whnf
          conv => whnf
          refine ⟨?_, nofun⟩
          exact endp ((check_3 (by omega) hf (by rw [head_form]; simp_all)).trans (by rw [head_form, if_pos (by first | exact w2 | exact w3)]))
        · conv => whnf
          conv => whnf
          refine ifB_beq (fun w4 => ?_) (fun w4 => ?_)
          · conv => whnf
            conv => whnf
            refine ⟨?_, nofun⟩
            exact endp ((check_3 (by omega) hf (by rw [head_form]; simp_all)).trans (by rw [head_form, if_neg (not_not_intro (by first | exact w2 | exact w3)), if_pos (by omega)]))
          · conv => whnf
            conv => whnf
            refine ifB_dec (fun w5 => ?_) (fun w5 => ?_)
            · conv => whnf
              conv => whnf
              refine ⟨?_, nofun⟩
              have h8 : headE p = 8 := by rw [head_form, if_neg (not_not_intro (by first | exact w2 | exact w3)), if_neg (by omega), if_pos (by omega)]
              exact endp ((check_3 (by omega) hf (by rw [h8]; decide)).trans (by rw [h8]))
            · have hh : headE p = 0 := by rw [head_form, if_neg (not_not_intro (by first | exact w2 | exact w3)), if_neg (by omega), if_neg (by omega)]
              conv => whnf
              conv => whnf
              refine ⟨[.slot 7 1], [1, 7, 8], fun st mq => ∃ (k : Nat), (k ≤ p.steps.length) ∧ (∀ j, j < k → stepAt p j = 0) ∧ st = ⟨[(1, .optr 0 0 0 0), (7, .oslice 1 0 0 k none), (8, i64 k)], ⟨[⟨3, 1, fun _ => planC p, 0, false, true, true⟩, ⟨1, k, fun i => [sv ((nms p).getD i ByteArray.empty)], 0, false, true, false⟩], [], none, 0⟩, []⟩ ∧ mq = p.steps.length - k,
                ⟨_, _, ⟨0, by omega, inv_none, rfl, rfl⟩, ⟨⟨.inl rfl, rfl, rfl, rfl⟩, ⟨⟨rfl, rfl, rfl, rfl, fun _ => rfl, fun _ _ => .inl rfl⟩, ⟨⟨rfl, rfl, rfl, rfl, fun _ => rfl, fun i h => .inl (absurd h (Nat.not_lt_zero i))⟩, trivial⟩⟩, trivial⟩⟩, ?_⟩
              rintro s0 m0 ⟨k, hk, hg, rfl, hmeas⟩
              by_cases hlt : k < p.steps.length
              · have hz := hp.name k hlt
                have hx := hp.exits k hlt
                have hl : (nms p).length = p.steps.length := by simp [nms]
                have h104 := @S104 (p.steps.getD (k : Int).toNat stp0).name (by show (p.steps.getD k stp0).name.size ≤ _; omega) (nms p) (by omega) k (by omega)
                have h105 := S105 p hn (p.steps.getD (k : Int).toNat stp0).needs
                have h21 := S21 p (by omega) (p.steps.getD (k : Int).toNat stp0).trip
                have h41 := S41 (p.steps.getD (k : Int).toNat stp0).wait 0 10000
                have h107 := S107 p (p.steps.getD (k : Int).toNat stp0) (by omega) (by show (p.steps.getD k stp0).exits.length ≤ _; omega)
                have h108 := S108 p (p.steps.getD (k : Int).toNat stp0) hn (by omega)
                have hform : stepAt p k = _ := step_form p (p.steps.getD (k : Int).toNat stp0) (hasS (List.take k (nms p)) (p.steps.getD (k : Int).toNat stp0).name)
                conv => whnf
                conv => whnf
                conv => whnf
                refine ifB_dec (fun w6 => ?_) (fun w6 => ?_)
                · conv => whnf
                  conv => whnf
                  conv => whnf
                  refine ⟨⟨(by omega), (by omega)⟩, ?_⟩
                  conv => whnf
                  conv => whnf
                  conv => whnf
                  refine ⟨[], by kernel_rfl, ?_⟩
                  conv => whnf
                  conv => whnf
                  conv => whnf
                  refine .inl ⟨_, _, byX rfl (Sound1.pl (h104 (fun _ => rfl)) rfl), ?_⟩
                  conv => whnf
                  conv => whnf
                  conv => whnf
                  refine .inl ⟨_, _, byX rfl (Sound1.pl (h105) rfl), ?_⟩
                  conv => whnf
                  conv => whnf
                  conv => whnf
                  refine .inl ⟨_, _, byX rfl (Sound1.pl (h21) rfl), ?_⟩
                  conv => whnf
                  conv => whnf
                  conv => whnf
                  refine .inl ⟨_, _, byX rfl (Sound1.pl (S106_3 _ _ _ ⟨rfl, rfl, rfl⟩) rfl), ?_⟩
                  conv => whnf
                  conv => whnf
                  conv => whnf
                  refine ifB_beq (fun w7 => ?_) (fun w7 => ?_)
                  · conv => whnf
                    conv => whnf
                    conv => whnf
                    refine .inl ⟨_, _, byX rfl (Sound1.pl (h41) rfl), ?_⟩
                    conv => whnf
                    conv => whnf
                    conv => whnf
                    refine ifB_not ?_
                    conv => whnf
                    conv => whnf
                    conv => whnf
                    refine ifB_dec (fun w8 => ?_) (fun w8 => ?_)
                    · conv => whnf
                      conv => whnf
                      conv => whnf
                      refine ifB_beq (fun w9 => ?_) (fun w9 => ?_)
                      · conv => whnf
                        conv => whnf
                        conv => whnf
                        refine ifB_beq (fun w10 => ?_) (fun w10 => ?_)
                        · conv => whnf
                          conv => whnf
                          conv => whnf
                          refine .inl ⟨_, _, byX rfl (Sound1.pl (h107) rfl), ?_⟩
                          conv => whnf
                          conv => whnf
                          conv => whnf
                          refine ifB_bne (fun w11 => ?_) (fun w11 => ?_)
                          · conv => whnf
                            conv => whnf
                            conv => whnf
                            refine ⟨?_, nofun⟩
                            rw [if_neg (not_not_intro w7), if_pos w8, if_pos (by first | exact w9 | exact w10)] at hform
                            exact endp (check_4 (by omega) hf hh hlt hg hform (by first | exact w10 | exact w11 | exact w12))
                          · conv => whnf
                            conv => whnf
                            conv => whnf
                            refine .inl ?_
                            conv => whnf
                            conv => whnf
                            conv => whnf
                            refine ⟨(by show _ * (16 + 1) ≤ _; omega), ?_⟩
                            conv => whnf
                            conv => whnf
                            conv => whnf
                            refine ⟨inK64 (by omega) (by omega), ?_⟩
                            rw [if_neg (not_not_intro w7), if_pos w8, if_pos (by first | exact w9 | exact w10)] at hform
                            conv => whnf
                            conv => whnf
                            conv => whnf
                            refine ⟨_, _, ⟨⟨k + 1, by omega, inv_next hg (hform.trans (by first | exact w10 | exact w11 | exact w12)), rfl, rfl⟩, by omega⟩, ⟨⟨.inl rfl, rfl, rfl, rfl⟩, ⟨⟨rfl, rfl, rfl, rfl, fun _ => rfl, fun _ _ => .inl rfl⟩, ⟨⟨rfl, rfl, rfl, rfl, fun _ => rfl, fun i h => .inl (nms_row hlt i h)⟩, trivial⟩⟩, trivial⟩⟩
                        · conv => whnf
                          conv => whnf
                          conv => whnf
                          refine ifB_beq (fun w11 => ?_) (fun w11 => ?_)
                          · conv => whnf
                            conv => whnf
                            conv => whnf
                            refine .inl ⟨_, _, byX rfl (Sound1.pl (h108) rfl), ?_⟩
                            conv => whnf
                            conv => whnf
                            conv => whnf
                            refine ifB_bne (fun w12 => ?_) (fun w12 => ?_)
                            · conv => whnf
                              conv => whnf
                              conv => whnf
                              refine ⟨?_, nofun⟩
                              rw [if_neg (not_not_intro w7), if_pos w8, if_neg (by first | exact w9 | exact w10)] at hform
                              exact endp (check_4 (by omega) hf hh hlt hg hform (by first | exact w10 | exact w11 | exact w12))
                            · conv => whnf
                              conv => whnf
                              conv => whnf
                              refine .inl ?_
                              conv => whnf
                              conv => whnf
                              conv => whnf
                              refine ⟨(by show _ * (16 + 1) ≤ _; omega), ?_⟩
                              conv => whnf
                              conv => whnf
                              conv => whnf
                              refine ⟨inK64 (by omega) (by omega), ?_⟩
                              rw [if_neg (not_not_intro w7), if_pos w8, if_neg (by first | exact w9 | exact w10)] at hform
                              conv => whnf
                              conv => whnf
                              conv => whnf
                              refine ⟨_, _, ⟨⟨k + 1, by omega, inv_next hg (hform.trans (by first | exact w10 | exact w11 | exact w12)), rfl, rfl⟩, by omega⟩, ⟨⟨.inl rfl, rfl, rfl, rfl⟩, ⟨⟨rfl, rfl, rfl, rfl, fun _ => rfl, fun _ _ => .inl rfl⟩, ⟨⟨rfl, rfl, rfl, rfl, fun _ => rfl, fun i h => .inl (nms_row hlt i h)⟩, trivial⟩⟩, trivial⟩⟩
                          · (exfalso; omega)
                      · (exfalso; omega)
                    · conv => whnf
                      conv => whnf
                      conv => whnf
                      refine ⟨?_, nofun⟩
                      rw [if_neg (not_not_intro w7), if_neg w8] at hform
                      exact endp (check_4 (by omega) hf hh hlt hg hform (by decide))
                  · conv => whnf
                    conv => whnf
                    conv => whnf
                    refine ifB_beq (fun w8 => ?_) (fun w8 => ?_)
                    · (exfalso; omega)
                    · conv => whnf
                      conv => whnf
                      conv => whnf
                      refine ifB_beq (fun w9 => ?_) (fun w9 => ?_)
                      · (exfalso; omega)
                      · conv => whnf
                        conv => whnf
                        conv => whnf
                        refine ifB_bne (fun w10 => ?_) (fun w10 => ?_)
                        · conv => whnf
                          conv => whnf
                          conv => whnf
                          refine ⟨?_, nofun⟩
                          rw [if_pos w7] at hform
                          exact endp (check_4 (by omega) hf hh hlt hg hform w7)
                        · (exfalso; omega)
                · (exfalso; omega)
              · have e : k = p.steps.length := by omega
                subst e
                have h5 := check_5 (by omega) hf hh hg
                conv => whnf
                conv => whnf
                conv => whnf
                refine ifB_dec (fun w6 => ?_) (fun w6 => ?_)
                · (exfalso; omega)
                · conv => whnf
                  conv => whnf
                  conv => whnf
                  refine ⟨⟨(by omega), (by omega)⟩, ?_⟩
                  conv => whnf
                  conv => whnf
                  conv => whnf
                  refine ifB_bne (fun w7 => ?_) (fun w7 => ?_)
                  · conv => whnf
                    conv => whnf
                    conv => whnf
                    refine ⟨?_, nofun⟩
                    exact endp (h5.trans (by rw [decide_eq_false (show ¬ (p.steps.getD 0 stp0).wait = 0 from w7), Bool.and_false]; rfl))
                  · conv => whnf
                    conv => whnf
                    conv => whnf
                    refine ⟨⟨(by omega), (by omega)⟩, ?_⟩
                    conv => whnf
                    conv => whnf
                    conv => whnf
                    refine ifB_not ?_
                    conv => whnf
                    conv => whnf
                    conv => whnf
                    refine ifB_intro (fun w8 => ?_) (fun w8 => ?_)
                    · conv => whnf
                      conv => whnf
                      conv => whnf
                      refine ⟨?_, nofun⟩
                      exact endp (h5.trans (by rw [decide_eq_true (show (p.steps.getD 0 stp0).wait = 0 from w7), show (p.steps.getD 0 stp0).safe = true from w8]; rfl))
                    · conv => whnf
                      conv => whnf
                      conv => whnf
                      refine ⟨?_, nofun⟩
                      exact endp (h5.trans (by rw [decide_eq_true (show (p.steps.getD 0 stp0).wait = 0 from w7), show (p.steps.getD 0 stp0).safe = false from w8]; rfl))
end Go.Tr

/- Contracts of chapter 7: states, faults, turns. Conditions: none. -/
namespace Go.Tr
open Go Go.Proofs
set_option maxRecDepth 20000
set_option maxHeartbeats 8000000

abbrev stA (s : Int × Int) : AV := .agg [i64 s.1, i64 s.2]
abbrev ftA (f : Int × Bool) : AV := .agg [i64 f.1, vb f.2]
def stateE (p : Pln) (s : Int × Int) : Int := firstOf [idxE p.steps.length s.1, setE p.sig.length s.2]
def faultE (p : Pln) (f : Int × Bool) : Int := firstOf [if decide (-1 ≤ f.1 ∧ f.1 ≤ (p.sig.length : Int) - 1) then 0 else 2, if decide (f.1 ≥ 0) || !f.2 then 0 else 3]
def openE (p : Pln) (s : Int × Int) (f : Int × Bool) : Int := if (checkP p).2 = 0 then firstOf [stateE p s, faultE p f] else (checkP p).2

theorem ave_agg2 {k : Nat} {a b a' b' : AV} (ha : AVE k a a') (hb : AVE k b b') : AVE (k + 1) (.agg [a, b]) (.agg [a', b']) := by
  refine ⟨rfl, fun i x y hx hy => ?_⟩
  match i, hx, hy with
  | 0, hx, hy => cases hx; cases hy; exact ha
  | 1, hx, hy => cases hx; cases hy; exact hb
theorem ave_agg3 {k : Nat} {a b c a' b' c' : AV} (ha : AVE k a a') (hb : AVE k b b') (hc : AVE k c c') : AVE (k + 1) (.agg [a, b, c]) (.agg [a', b', c']) := by
  refine ⟨rfl, fun i x y hx hy => ?_⟩
  match i, hx, hy with
  | 0, hx, hy => cases hx; cases hy; exact ha
  | 1, hx, hy => cases hx; cases hy; exact hb
  | 2, hx, hy => cases hx; cases hy; exact hc
theorem ave_tup3 {k : Nat} {a b c a' b' c' : AV} (ha : AVE k a a') (hb : AVE k b b') (hc : AVE k c c') : AVE (k + 1) (.tuple [a, b, c]) (.tuple [a', b', c']) := by
  refine ⟨rfl, fun i x y hx hy => ?_⟩
  match i, hx, hy with
  | 0, hx, hy => cases hx; cases hy; exact ha
  | 1, hx, hy => cases hx; cases hy; exact hb
  | 2, hx, hy => cases hx; cases hy; exact hc
theorem ave_plan (k : Nat) (p : Pln) : AVE (k + 2) (planA p) (planA p) := ave_agg3 ⟨rfl, rfl, fun _ _ => rfl⟩ rfl ⟨rfl, rfl, fun _ _ => rfl⟩
theorem ave_i64 (k : Nat) {a b : Int} (h : a = b) : AVE (k + 1) (i64 a) (i64 b) := h ▸ rfl
theorem ave_st (k : Nat) {s s' : Int × Int} (h : s = s') : AVE (k + 2) (stA s) (stA s') := h ▸ ave_agg2 rfl rfl
theorem endPl {p : Pln} {a b : Int} (h : a = b) : AVE 5 (.tuple [planA p, i64 a]) (.tuple [planA p, i64 b]) := ave_tup2 (ave_plan 2 p) (ave_i64 3 h)
theorem S109 (p : Pln) (hn : p.sig.length ≤ 7) (hm : p.steps.length ≤ 1000) (s : Int × Int) : SP 109 [planA p, stA s] (i64 (stateE p s)) false := by
  have h68 := @S68_1 p hm s.1
  have h98 := @S98_1 p hn s.2
  rw [idxs1] at h68
  rw [sets1] at h98
  refine sound (d := 2) tok2 mixed2 Tryd.func109 (by kernel_rfl) (by kernel_rfl) ?_
  conv => whnf
  refine ⟨[], by kernel_rfl, ?_⟩
  conv => whnf
  refine .inl ⟨_, _, byX rfl (Sound1.pl (h68 rfl) rfl), ?_⟩
  conv => whnf
  refine .inl ⟨_, _, byX rfl (Sound1.pl (h98 rfl) rfl), ?_⟩
  conv => whnf
  refine .inl ⟨_, _, byX rfl (Sound1.pl (S83_2 _ _ ⟨rfl, rfl⟩) rfl), ?_⟩
  conv => whnf
  refine ⟨?_, nofun⟩
  rfl
theorem S103 (p : Pln) (hn : p.sig.length ≤ 7) (f : Int × Bool) : SP 103 [planA p, ftA f] (i64 (faultE p f)) false := by
  have h78 := S78 f.1 (-1) ((p.sig.length : Int) - 1)
  refine sound (d := 2) tok2 mixed2 Tryd.func103 (by kernel_rfl) (by kernel_rfl) ?_
  unfold faultE
  conv => whnf
  refine ⟨[], by kernel_rfl, ?_⟩
  conv => whnf
  refine ⟨inK64 (by omega) (by omega), ?_⟩
  conv => whnf
  refine .inl ⟨_, _, byX rfl (Sound1.pl (h78) rfl), ?_⟩
  conv => whnf
  refine .inl ⟨_, _, byX rfl (Sound1.pl (S69 _ _) rfl), ?_⟩
  conv => whnf
  refine ifB_dec (fun w1 => ?_) (fun w1 => ?_)
  · conv => whnf
    refine .inl ⟨_, _, byX rfl (Sound1.pl (S69 _ _) rfl), ?_⟩
    conv => whnf
    refine .inl ⟨_, _, byX rfl (Sound1.pl (S83_2 _ _ ⟨rfl, rfl⟩) rfl), ?_⟩
    conv => whnf
    refine ⟨?_, nofun⟩
    refine endi ?_
    rw [decide_eq_true w1]; rfl
  · conv => whnf
    refine .inl ⟨_, _, byX rfl (Sound1.pl (S69 _ _) rfl), ?_⟩
    conv => whnf
    refine .inl ⟨_, _, byX rfl (Sound1.pl (S83_2 _ _ ⟨rfl, rfl⟩) rfl), ?_⟩
    conv => whnf
    refine ⟨?_, nofun⟩
    refine endi ?_
    rw [decide_eq_false w1]; rfl
theorem S60 (p : Pln) (hn : p.sig.length ≤ 7) (hm : p.steps.length ≤ 1000) (s : Int × Int) : SP 60 [planA p, stA s] (i64 (stateE p s)) false := by
  have h21 := S21 p hm s.1
  have h105 := S105 p hn s.2
  refine sound (d := 2) tok2 mixed2 Tryd.func60 (by kernel_rfl) (by kernel_rfl) ?_
  conv => whnf
  refine ⟨[], by kernel_rfl, ?_⟩
  conv => whnf
  refine .inl ⟨_, _, byX rfl (Sound1.pl (h21) rfl), ?_⟩
  conv => whnf
  refine .inl ⟨_, _, byX rfl (Sound1.pl (h105) rfl), ?_⟩
  conv => whnf
  refine .inl ⟨_, _, byX rfl (Sound1.pl (S106_2 _ _ ⟨rfl, rfl⟩) rfl), ?_⟩
  conv => whnf
  refine ⟨?_, nofun⟩
  rfl
theorem S61 (p : Pln) (hn : p.sig.length ≤ 7) (f : Int × Bool) : SP 61 [planA p, ftA f] (i64 (faultE p f)) false := by
  have h41 := S41 f.1 (-1) ((p.sig.length : Int) - 1)
  refine sound (d := 2) tok2 mixed2 Tryd.func61 (by kernel_rfl) (by kernel_rfl) ?_
  unfold faultE
  conv => whnf
  refine ⟨inK64 (by omega) (by omega), ?_⟩
  conv => whnf
  refine .inl ⟨_, _, byX rfl (Sound1.pl (h41) rfl), ?_⟩
  conv => whnf
  refine ifB_not ?_
  conv => whnf
  refine ifB_dec (fun w1 => ?_) (fun w1 => ?_)
  · conv => whnf
    refine ifB_beq (fun w2 => ?_) (fun w2 => ?_)
    · conv => whnf
      refine ifB_intro (fun w3 => ?_) (fun w3 => ?_)
      · conv => whnf
        refine ⟨?_, nofun⟩
        refine endi ?_
        rw [decide_eq_true w1, decide_eq_false (by omega), w3]; rfl
      · conv => whnf
        refine ⟨?_, nofun⟩
        refine endi ?_
        rw [decide_eq_true w1, w3]; simp [firstOf]
    · conv => whnf
      refine ⟨?_, nofun⟩
      refine endi ?_
      rw [decide_eq_true w1, decide_eq_true (by omega)]; simp [firstOf]
  · conv => whnf
    refine ⟨?_, nofun⟩
    refine endi ?_
    rw [decide_eq_false w1]; rfl
theorem S101 (p : Pln) (hp : FewP p) : SP 101 [planA p] (.tuple [planA p, i64 (checkP p).2]) false := by
  have h := S53 p hp
  refine sound (d := 2) tok2 mixed2 Tryd.func101 (by kernel_rfl) (by kernel_rfl) ?_
  conv => whnf
  refine .inl ⟨_, _, byX rfl (Sound1.pl (h) rfl), ?_⟩
  conv => whnf
  refine ⟨?_, nofun⟩
  exact endPl rfl
theorem S15 (p : Pln) (hp : FewP p) : SP 15 [planA p] (i64 (checkP p).2) false := by
  have h := S57 p hp
  refine sound (d := 2) tok2 mixed2 Tryd.func15 (by kernel_rfl) (by kernel_rfl) ?_
  conv => whnf
  refine .inl ⟨_, _, byX rfl (Sound1.pl (h) rfl), ?_⟩
  conv => whnf
  refine ⟨?_, nofun⟩
  rfl
theorem S67 (p : Pln) (hp : FewP p) (s : Int × Int) (f : Int × Bool) : SP 67 [planA p, stA s, ftA f] (.tuple [planA p, i64 (openE p s f)]) false := by
  have hn := hp.sig
  have hm := hp.steps
  have h101 := S101 p hp
  have h109 := S109 p hn (by omega) s
  have h103 := S103 p hn f
  refine sound (d := 2) tok2 mixed2 Tryd.func67 (by kernel_rfl) (by kernel_rfl) ?_
  conv => whnf
  refine .inl ⟨_, _, byX rfl (h101), ?_⟩
  conv => whnf
  refine ifB_beq (fun w1 => ?_) (fun w1 => ?_)
  · conv => whnf
    refine ⟨[], by kernel_rfl, ?_⟩
    conv => whnf
    refine .inl ⟨_, _, byX rfl (Sound1.pl (h109) rfl), ?_⟩
    conv => whnf
    refine .inl ⟨_, _, byX rfl (Sound1.pl (h103) rfl), ?_⟩
    conv => whnf
    refine .inl ⟨_, _, byX rfl (Sound1.pl (S83_2 _ _ ⟨rfl, rfl⟩) rfl), ?_⟩
    conv => whnf
    refine ⟨?_, nofun⟩
    exact endPl (if_pos w1).symm
  · conv => whnf
    refine ⟨?_, nofun⟩
    exact endPl (if_neg w1).symm
theorem S19 (p : Pln) (hp : FewP p) (s : Int × Int) (f : Int × Bool) : SP 19 [planA p, stA s, ftA f] (i64 (openE p s f)) false := by
  have hn := hp.sig
  have hm := hp.steps
  have h15 := S15 p hp
  have h60 := S60 p hn (by omega) s
  have h61 := S61 p hn f
  refine sound (d := 2) tok2 mixed2 Tryd.func19 (by kernel_rfl) (by kernel_rfl) ?_
  conv => whnf
  refine .inl ⟨_, _, byX rfl (Sound1.pl (h15) rfl), ?_⟩
  conv => whnf
  refine ifB_bne (fun w1 => ?_) (fun w1 => ?_)
  · conv => whnf
    refine ⟨?_, nofun⟩
    exact endi (if_neg w1).symm
  · conv => whnf
    refine .inl ⟨_, _, byX rfl (Sound1.pl (h60) rfl), ?_⟩
    conv => whnf
    refine ifB_bne (fun w2 => ?_) (fun w2 => ?_)
    · conv => whnf
      refine ⟨?_, nofun⟩
      refine endi (Eq.trans ?_ (if_pos w1).symm)
      rw [first2, if_pos w2]
    · conv => whnf
      refine .inl ⟨_, _, byX rfl (Sound1.pl (h61) rfl), ?_⟩
      conv => whnf
      refine ⟨?_, nofun⟩
      refine endi (Eq.trans ?_ (if_pos w1).symm)
      rw [first2, if_neg (not_not_intro w2)]
theorem S20 : SP 20 [] (ftA (-1, false)) false := by
  refine sound (d := 2) tok2 mixed2 Tryd.func20 (by kernel_rfl) (by kernel_rfl) ?_
  conv => whnf
  refine ⟨?_, nofun⟩
  exact ave_agg2 (k := 4) rfl rfl

/-! ### Turns -/

def seenB (w : Int) (f : Int × Bool) : Int := if f.1 < 0 then w else if f.2 then bitI .or .i64 w (shlI .i64 1 f.1) else bitI .andNot .i64 w (shlI .i64 1 f.1)
def lacksB (a b : Int) : Bool := decide (¬ bitI .andNot .i64 b a = 0)
def stp (p : Pln) (s : Int × Int) : Stp := p.steps.getD s.1.toNat stp0
def movedW (p : Pln) (s : Int × Int) : Int := bitI .andNot .i64 (bitI .or .i64 s.2 (stp p s).mon) (stp p s).mof
def turnF (p : Pln) (f : Int × Bool) (s : Int × Int) (c : Int) : (Int × Int) × Int :=
  if lacksB (seenB s.2 f) (stp p s).needs then (((stp p s).trip, s.2), 1)
  else if (stp p s).wait = 0 then (if c = -1 then s else (c, s.2), 1)
  else if lacksB (seenB (movedW p s) f) (stp p s).needs then (((stp p s).trip, movedW p s), (stp p s).time)
  else if lacksB (seenB (movedW p s) f) (stp p s).on || decide (¬ bitI .and .i64 (seenB (movedW p s) f) (stp p s).off = 0) then (((stp p s).back, movedW p s), (stp p s).wait)
  else (((stp p s).next, movedW p s), (stp p s).time)

theorem S90 (w : Int) (f : Int × Bool) : SP 90 [i64 w, ftA f] (i64 (seenB w f)) false := by
  refine sound (d := 2) tok2 mixed2 Tryd.func90 (by kernel_rfl) (by kernel_rfl) ?_
  unfold seenB
  conv => whnf
  refine ifB_dec (fun w1 => ?_) (fun w1 => ?_)
  · conv => whnf
    refine ⟨?_, nofun⟩
    exact endi (if_pos w1).symm
  · conv => whnf
    refine ifB_intro (fun w2 => ?_) (fun w2 => ?_)
    · conv => whnf
      refine ⟨(by omega), ?_⟩
      conv => whnf
      refine ⟨?_, nofun⟩
      exact endi ((if_neg w1).trans (if_pos w2)).symm
    · conv => whnf
      refine ⟨(by omega), ?_⟩
      conv => whnf
      refine ⟨?_, nofun⟩
      exact endi ((if_neg w1).trans (if_neg (by rw [w2]; nofun))).symm
theorem S122 (a b : Int) : SP 122 [i64 a, i64 b] (vb (lacksB a b)) false := by
  refine sound (d := 2) tok2 mixed2 Tryd.func122 (by kernel_rfl) (by kernel_rfl) ?_
  conv => whnf
  refine ⟨?_, nofun⟩
  refine endb ?_
  unfold lacksB
  rw [bne, Bool.eq_iff_iff]
  simp
theorem S119 (p : Pln) (s : Int × Int) (f : Int × Bool) (hs : 0 ≤ s.1 ∧ s.1 < p.steps.length) : SP 119 [planA p, stA s, ftA f] (vb (lacksB (seenB s.2 f) (stp p s).needs)) false := by
  have h90 := S90 s.2 f
  have h122 := S122 (seenB s.2 f) (stp p s).needs
  refine sound (d := 2) tok2 mixed2 Tryd.func119 (by kernel_rfl) (by kernel_rfl) ?_
  conv => whnf
  refine ⟨[], by kernel_rfl, ?_⟩
  conv => whnf
  refine .inl ⟨_, _, byX rfl (Sound1.pl (h90) rfl), ?_⟩
  conv => whnf
  refine ⟨⟨(by omega), (by omega)⟩, ?_⟩
  conv => whnf
  refine .inl ⟨_, _, byX rfl (Sound1.pl (h122) rfl), ?_⟩
  conv => whnf
  refine ⟨?_, nofun⟩
  rfl
theorem endT {p : Pln} {s : Int × Int} {f : Int × Bool} {c a b t : Int} (h : turnF p f s c = ((a, b), t)) : AVE 5 (.tuple [stA (a, b), i64 t]) (.tuple [stA (turnF p f s c).1, i64 (turnF p f s c).2]) := by
  rw [h]
  exact ave_tup2 (ave_agg2 (k := 3) rfl rfl) (ave_i64 3 rfl)
theorem lk_t {a b : Int} (h : ¬ bitI .andNot .i64 b a = 0) : lacksB a b = true := decide_eq_true h
theorem lk_n {a b : Int} (h : ¬ ¬ bitI .andNot .i64 b a = 0) : ¬ lacksB a b = true := fun e => h (of_decide_eq_true e)
theorem lk_f {a b : Int} (h : ¬ ¬ bitI .andNot .i64 b a = 0) : lacksB a b = false := decide_eq_false h
theorem S92 (p : Pln) (s : Int × Int) (f : Int × Bool) (c : Int) (hs : 0 ≤ s.1 ∧ s.1 < p.steps.length) : SP 92 [planA p, stA s, ftA f, i64 c] (.tuple [stA (turnF p f s c).1, i64 (turnF p f s c).2]) false := by
  have h119 := S119 p s f hs
  have h90 := S90 (movedW p s) f
  have h122 := S122 (seenB (movedW p s) f)
  have h70 := S70 (stp p s)
  refine sound (d := 2) tok2 mixed2 Tryd.func92 (by kernel_rfl) (by kernel_rfl) ?_
  conv => whnf
  refine ⟨⟨(by omega), (by omega)⟩, ?_⟩
  conv => whnf
  refine .inl ⟨_, _, byX rfl (Sound1.pl (h119) rfl), ?_⟩
  conv => whnf
  refine ifB_dec (fun w1 => ?_) (fun w1 => ?_)
  · conv => whnf
    refine ⟨?_, nofun⟩
    exact endT (if_pos (lk_t w1))
  · conv => whnf
    refine .inl ⟨_, _, byX rfl (Sound1.pl (h70) rfl), ?_⟩
    conv => whnf
    refine ifB_dec (fun w2 => ?_) (fun w2 => ?_)
    · conv => whnf
      refine ifB_bne (fun w3 => ?_) (fun w3 => ?_)
      · conv => whnf
        refine ⟨?_, nofun⟩
        exact endT ((if_neg (lk_n w1)).trans ((if_pos w2).trans (by rw [if_neg w3])))
      · conv => whnf
        refine ⟨?_, nofun⟩
        exact endT ((if_neg (lk_n w1)).trans ((if_pos w2).trans (by rw [if_pos w3])))
    · conv => whnf
      refine .inl ⟨_, _, byX rfl (Sound1.pl (h90) rfl), ?_⟩
      conv => whnf
      refine .inl ⟨_, _, byX rfl (Sound1.pl (h122 _) rfl), ?_⟩
      conv => whnf
      refine ifB_dec (fun w3 => ?_) (fun w3 => ?_)
      · conv => whnf
        refine ⟨[(2, 3)], by kernel_rfl, ?_⟩
        conv => whnf
        refine ⟨?_, nofun⟩
        exact endT ((if_neg (lk_n w1)).trans ((if_neg w2).trans (if_pos (lk_t w3))))
      · conv => whnf
        refine .inl ⟨_, _, byX rfl (Sound1.pl (h122 _) rfl), ?_⟩
        conv => whnf
        refine ifB_dec (fun w4 => ?_) (fun w4 => ?_)
        · conv => whnf
          refine ⟨[(2, 3)], by kernel_rfl, ?_⟩
          conv => whnf
          refine ⟨?_, nofun⟩
          exact endT ((if_neg (lk_n w1)).trans ((if_neg w2).trans ((if_neg (lk_n w3)).trans (if_pos (Bool.or_eq_true_iff.2 (.inl (lk_t w4)))))))
        · conv => whnf
          refine ifB_bne (fun w5 => ?_) (fun w5 => ?_)
          · conv => whnf
            refine ⟨[(2, 3)], by kernel_rfl, ?_⟩
            conv => whnf
            refine ⟨?_, nofun⟩
            exact endT ((if_neg (lk_n w1)).trans ((if_neg w2).trans ((if_neg (lk_n w3)).trans (if_pos (Bool.or_eq_true_iff.2 (.inr (decide_eq_true w5)))))))
          · conv => whnf
            refine ⟨[(2, 3)], by kernel_rfl, ?_⟩
            conv => whnf
            refine ⟨?_, nofun⟩
            exact endT ((if_neg (lk_n w1)).trans ((if_neg w2).trans ((if_neg (lk_n w3)).trans (if_neg fun e => (Bool.or_eq_true_iff.1 e).elim (lk_n w4) fun e => (of_decide_eq_true e) w5))))
theorem S118 (p : Pln) (s : Int × Int) (f : Int × Bool) (hs : 0 ≤ s.1 ∧ s.1 < p.steps.length) : SP 118 [planA p, stA s, ftA f] (vb (((stp p s).safe && decide ((stp p s).wait = 0)) && !lacksB (seenB s.2 f) (stp p s).needs)) false := by
  have h119 := S119 p s f hs
  have h100 := S100 (stp p s)
  refine sound (d := 2) tok2 mixed2 Tryd.func118 (by kernel_rfl) (by kernel_rfl) ?_
  conv => whnf
  refine ⟨⟨(by omega), (by omega)⟩, ?_⟩
  conv => whnf
  refine .inl ⟨_, _, byX rfl (Sound1.pl (h100) rfl), ?_⟩
  conv => whnf
  refine ifB_intro (fun w1 => ?_) (fun w1 => ?_)
  · conv => whnf
    refine .inl ⟨_, _, byX rfl (Sound1.pl (h119) rfl), ?_⟩
    conv => whnf
    refine ⟨?_, nofun⟩
    refine endb ?_
    rw [w1]; rfl
  · conv => whnf
    refine ⟨?_, nofun⟩
    refine endb ?_
    rw [w1]; rfl

/-- A turn home. -/
def homeTurnF (p : Pln) (f : Int × Bool) (s : Int × Int) : Option ((Int × Int) × Int) :=
  if (stp p s).wait = 0 ∧ (stp p s).safe = false ∧ lacksB (seenB s.2 f) (stp p s).needs = false then
    if (stp p s).exits.length = 0 then none else some (turnF p f s (stp p s).home)
  else some (turnF p f s (-1))
def htA : Option ((Int × Int) × Int) → AV
  | none => .tuple [stA (0, 0), i64 0, vb false]
  | some x => .tuple [stA x.1, i64 x.2, vb true]
theorem endH {p : Pln} {s : Int × Int} {f : Int × Bool} {c : Int} (h : homeTurnF p f s = some (turnF p f s c)) : AVE 5 (.tuple [stA (turnF p f s c).1, i64 (turnF p f s c).2, vb true]) (htA (homeTurnF p f s)) := by
  rw [h]
  exact ave_tup3 (ave_st 2 rfl) rfl rfl
theorem endH0 {p : Pln} {s : Int × Int} {f : Int × Bool} (h : homeTurnF p f s = none) : AVE 5 (.tuple [stA (0, 0), i64 0, vb false]) (htA (homeTurnF p f s)) := by
  rw [h]
  exact ave_tup3 (ave_st 2 rfl) rfl rfl
theorem S81 (p : Pln) (s : Int × Int) (f : Int × Bool) (hs : 0 ≤ s.1 ∧ s.1 < p.steps.length) : SP 81 [planA p, stA s, ftA f] (htA (homeTurnF p f s)) false := by
  have h119 := S119 p s f hs
  have h70 := S70 (stp p s)
  have h92 := S92 p s f (-1) hs
  have h92h := S92 p s f (stp p s).home hs
  refine sound (d := 2) tok2 mixed2 Tryd.func81 (by kernel_rfl) (by kernel_rfl) ?_
  conv => whnf
  refine ⟨⟨(by omega), (by omega)⟩, ?_⟩
  conv => whnf
  refine .inl ⟨_, _, byX rfl (Sound1.pl (h70) rfl), ?_⟩
  conv => whnf
  refine ifB_dec (fun w1 => ?_) (fun w1 => ?_)
  · conv => whnf
    refine ifB_not ?_
    conv => whnf
    refine ifB_intro (fun w2 => ?_) (fun w2 => ?_)
    · conv => whnf
      refine .inl ⟨_, _, byX rfl (Sound1.pl (h92) rfl), ?_⟩
      conv => whnf
      refine ⟨?_, nofun⟩
      exact endH (if_neg fun h => Bool.noConfusion (h.2.1.symm.trans w2))
    · conv => whnf
      refine .inl ⟨_, _, byX rfl (Sound1.pl (h119) rfl), ?_⟩
      conv => whnf
      refine ifB_not ?_
      conv => whnf
      refine ifB_dec (fun w3 => ?_) (fun w3 => ?_)
      · conv => whnf
        refine .inl ⟨_, _, byX rfl (Sound1.pl (h92) rfl), ?_⟩
        conv => whnf
        refine ⟨?_, nofun⟩
        exact endH (if_neg fun h => Bool.noConfusion (h.2.2.symm.trans (lk_t w3)))
      · conv => whnf
        refine ifB_beq (fun w4 => ?_) (fun w4 => ?_)
        · conv => whnf
          refine ⟨?_, nofun⟩
          exact endH0 ((if_pos ⟨w1, w2, lk_f w3⟩).trans (if_pos (Int.ofNat.inj w4)))
        · conv => whnf
          refine .inl ⟨_, _, byX rfl (Sound1.pl (h92h) rfl), ?_⟩
          conv => whnf
          refine ⟨?_, nofun⟩
          exact endH ((if_pos ⟨w1, w2, lk_f w3⟩).trans (if_neg fun e => w4 (congrArg Int.ofNat e)))
  · conv => whnf
    refine .inl ⟨_, _, byX rfl (Sound1.pl (h92) rfl), ?_⟩
    conv => whnf
    refine ⟨?_, nofun⟩
    exact endH (if_neg fun h => w1 h.1)

/-! ### The reference's turns -/

theorem all_range {n : Nat} {P : Nat → Bool} (h : (List.range n).all P = true) {i : Nat} (hi : i < n) : P i = true := List.all_eq_true.1 h i (List.mem_range.2 hi)
theorem bits1' : ((List.range 32).all fun a => (List.range 32).all fun b => lacksB (a : Nat) (b : Nat) == !decide (bitI .and .i64 (a : Nat) (b : Nat) = (b : Nat))) = true := by decide +kernel
theorem bits2' : ((List.range 32).all fun w => (List.range 5).all fun f => decide (bitI .andNot .i64 (w : Nat) (shlI .i64 1 (f : Nat)) + shlI .i64 1 (f : Nat) = bitI .or .i64 (w : Nat) (shlI .i64 1 (f : Nat)))) = true := by decide +kernel
theorem bits3' : ((List.range 6).all fun n => (List.range (2 ^ n)).all fun a => (List.range (2 ^ n)).all fun b =>
    decide (0 ≤ bitI .or .i64 (a : Nat) (b : Nat) ∧ bitI .or .i64 (a : Nat) (b : Nat) < (2 ^ n : Nat) ∧ 0 ≤ bitI .andNot .i64 (a : Nat) (b : Nat) ∧ bitI .andNot .i64 (a : Nat) (b : Nat) < (2 ^ n : Nat))) = true := by decide +kernel
theorem bits1 {a b : Int} (ha : 0 ≤ a ∧ a < 32) (hb : 0 ≤ b ∧ b < 32) : lacksB a b = !decide (bitI .and .i64 a b = b) := by
  have h := all_range (all_range bits1' (i := a.toNat) (by omega)) (i := b.toNat) (by omega)
  rw [show ((a.toNat : Nat) : Int) = a by omega, show ((b.toNat : Nat) : Int) = b by omega] at h
  exact eq_of_beq h
theorem bits2 {w f : Int} (hw : 0 ≤ w ∧ w < 32) (hf : 0 ≤ f ∧ f < 5) : bitI .andNot .i64 w (shlI .i64 1 f) + shlI .i64 1 f = bitI .or .i64 w (shlI .i64 1 f) := by
  have h := all_range (all_range bits2' (i := w.toNat) (by omega)) (i := f.toNat) (by omega)
  rw [show ((w.toNat : Nat) : Int) = w by omega, show ((f.toNat : Nat) : Int) = f by omega] at h
  exact of_decide_eq_true h
theorem pwI {n : Nat} (hn : n ≤ 7) : pw n = ((2 ^ n : Nat) : Int) := by
  match n, hn with
  | 0, _ => rfl | 1, _ => rfl | 2, _ => rfl | 3, _ => rfl | 4, _ => rfl | 5, _ => rfl | 6, _ => rfl | 7, _ => rfl
theorem inS_iff {n : Nat} {x : Int} : inS n x = true ↔ 0 ≤ x ∧ x < pw n := by
  unfold inS
  rw [decide_eq_true_iff]
  omega
theorem inX_iff {m : Nat} {x : Int} : inX m x = true ↔ 0 ≤ x ∧ x < m := by
  unfold inX
  rw [decide_eq_true_iff]
  omega
theorem bits3 {n : Nat} (hn : n ≤ 5) {a b : Int} (ha : inS n a = true) (hb : inS n b = true) : inS n (bitI .or .i64 a b) = true ∧ inS n (bitI .andNot .i64 a b) = true := by
  rw [inS_iff, pwI (by omega)] at ha hb
  have h := all_range (all_range (all_range bits3' (i := n) (by omega)) (i := a.toNat) (by omega)) (i := b.toNat) (by omega)
  rw [show ((a.toNat : Nat) : Int) = a by omega, show ((b.toNat : Nat) : Int) = b by omega] at h
  have h := of_decide_eq_true h
  rw [inS_iff, inS_iff, pwI (by omega)]
  omega
theorem inS_32 {n : Nat} (hn : n ≤ 5) {x : Int} (h : inS n x = true) : 0 ≤ x ∧ x < 32 := by
  rw [inS_iff, pwI (by omega)] at h
  have : (2 ^ n : Nat) ≤ 2 ^ 5 := Nat.pow_le_pow_right (by decide) hn
  omega

/-- What holds of valid plans. -/
structure Good (p : Pln) : Prop where
  few : FewP p
  n : p.sig.length ≤ 5
  m0 : 0 < p.steps.length
  m : p.steps.length ≤ 10
  start : inS p.sig.length p.start = true
  step : ∀ k, k < p.steps.length → stepAt p k = 0
  safe : (p.steps.getD 0 stp0).safe = true ∧ (p.steps.getD 0 stp0).wait = 0
theorem Good.of {p : Pln} (hp : FewP p) (h : (checkP p).2 = 0) : Good p := by
  unfold checkP at h
  split at h
  · cases h
  rename_i h1
  split at h
  · rename_i h2; exact absurd h h2
  split at h
  · rename_i h2; exact absurd h h2
  rename_i hh
  have hh := Decidable.of_not_not hh
  split at h
  · rename_i h2; exact absurd h h2
  rename_i h3
  have h3 := Decidable.of_not_not h3
  have hl := head_len hh
  rw [head_form] at hh
  split at hh
  · rename_i h4; exact absurd hh h4
  rename_i h4
  have h4 := Decidable.of_not_not h4
  split at hh
  · cases hh
  split at hh
  · cases hh
  refine ⟨hp, by omega, hl, by omega, ?_, scan_zero h3, ?_⟩
  · unfold setE at h4
    split at h4
    · assumption
    · cases h4
  · have h : (if ((p.steps.getD 0 stp0).safe && decide ((p.steps.getD 0 stp0).wait = 0)) = true then (0 : Int) else 20) = 0 := h
    split at h
    · rename_i h5
      rw [Bool.and_eq_true, decide_eq_true_iff] at h5
      exact h5
    · cases h
/-- What holds of the steps of valid plans. -/
structure GoodS (n m : Nat) (s : Stp) : Prop where
  needs : inS n s.needs = true
  trip : inX m s.trip = true
  w0 : 0 ≤ s.wait
  w1 : s.wait ≤ 10000
  steady : s.wait = 0 → (∀ i, i < s.exits.length → inX m (s.exits.getD i 0) = true) ∧ (hasI s.exits s.home = true ∨ s.exits.length = 0)
  moving : s.wait ≠ 0 → inS n s.on = true ∧ inS n s.off = true ∧ inS n s.mon = true ∧ inS n s.mof = true ∧ 1 ≤ s.time ∧ s.time ≤ s.wait ∧ inX m s.next = true ∧ inX m s.back = true
theorem setE0 {n : Nat} {x : Int} (h : setE n x = 0) : inS n x = true := by
  unfold setE at h
  split at h
  · assumption
  · cases h
theorem idxE0 {n : Nat} {x : Int} (h : idxE n x = 0) : inX n x = true := by
  unfold idxE at h
  split at h
  · assumption
  · cases h
theorem first4_iff {a b c d : Int} : firstOf [a, b, c, d] = 0 ↔ a = 0 ∧ b = 0 ∧ c = 0 ∧ d = 0 := by
  unfold firstOf
  by_cases h : a = 0
  · rw [if_pos h, first3_iff]; simp [h]
  · rw [if_neg h]; simp [h]
theorem first2_iff {a b : Int} : firstOf [a, b] = 0 ↔ a = 0 ∧ b = 0 := by
  rw [first2]
  by_cases h : a = 0 <;> simp [h]
theorem Good.at {p : Pln} (h : Good p) {k : Nat} (hk : k < p.steps.length) : GoodS p.sig.length p.steps.length (p.steps.getD k stp0) := by
  have hs : _ = _ := (step_form p (p.steps.getD k stp0) _).symm.trans (h.step k hk)
  split at hs
  · rename_i h1; exact absurd hs h1
  rename_i h1
  have h1 := Decidable.of_not_not h1
  rw [first3_iff] at h1
  split at hs
  case isFalse => cases hs
  rename_i hw
  refine ⟨setE0 h1.2.1, idxE0 h1.2.2, hw.1, hw.2, fun h0 => ?_, fun h0 => ?_⟩
  · rw [if_pos h0] at hs
    unfold steadyE at hs
    split at hs
    · cases hs
    split at hs
    · rename_i h2; exact absurd hs h2
    rename_i h2
    have h2 := scan_zero (Decidable.of_not_not h2)
    refine ⟨fun i hi => ?_, ?_⟩
    · have h3 := h2 i hi
      unfold exAt at h3
      split at h3
      · rename_i h4; exact absurd h3 h4
      · rename_i h4; exact idxE0 (Decidable.of_not_not h4)
    · split at hs
      · rename_i h4
        rw [Bool.or_eq_true, Bool.and_eq_true, decide_eq_true_iff] at h4
        exact h4.imp id And.left
      · cases hs
  · rw [if_neg h0, moving_form] at hs
    split at hs
    · cases hs
    split at hs
    · cases hs
    split at hs
    · cases hs
    split at hs
    · rename_i h2; exact absurd hs h2
    rename_i h2
    have h2 := Decidable.of_not_not h2
    rw [first4_iff] at h2
    split at hs
    · cases hs
    split at hs
    · cases hs
    split at hs
    · rename_i ht
      rw [first2_iff] at hs
      exact ⟨setE0 h2.1, setE0 h2.2.1, setE0 h2.2.2.1, setE0 h2.2.2.2, ht.1, ht.2, idxE0 hs.1, idxE0 hs.2⟩
    · cases hs
end Go.Tr

/- Contracts of chapter 7: turns of the reference. Conditions: none. -/
namespace Go.Tr
open Go Go.Proofs
set_option maxRecDepth 20000
set_option maxHeartbeats 8000000

/-- A state that there is. -/
def OkS (p : Pln) (s : Int × Int) : Prop := inX p.steps.length s.1 = true ∧ inS p.sig.length s.2 = true
/-- A fault that there is. -/
def OkF (p : Pln) (f : Int × Bool) : Prop := -1 ≤ f.1 ∧ f.1 < p.sig.length
def OkC (p : Pln) (c : Int) : Prop := c = -1 ∨ inX p.steps.length c = true
theorem state_ok {p : Pln} {s : Int × Int} : stateE p s = 0 ↔ OkS p s := by
  unfold stateE
  rw [first2_iff]
  refine ⟨fun h => ⟨idxE0 h.1, setE0 h.2⟩, fun h => ⟨?_, ?_⟩⟩
  · unfold idxE; rw [if_pos h.1]
  · unfold setE; rw [if_pos h.2]
theorem fault_ok {p : Pln} {f : Int × Bool} (h : faultE p f = 0) : OkF p f := by
  unfold faultE at h
  rw [first2_iff] at h
  by_cases h1 : -1 ≤ f.1 ∧ f.1 ≤ (p.sig.length : Int) - 1
  · exact ⟨h1.1, by omega⟩
  · rw [decide_eq_false h1] at h; cases h.1
theorem OkS.at {p : Pln} {s : Int × Int} (h : OkS p s) : 0 ≤ s.1 ∧ s.1 < p.steps.length := inX_iff.1 h.1
theorem OkS.k {p : Pln} {s : Int × Int} (h : OkS p s) : s.1.toNat < p.steps.length := by have := h.at; omega
theorem Good.stp {p : Pln} (hg : Good p) {s : Int × Int} (h : OkS p s) : GoodS p.sig.length p.steps.length (stp p s) := hg.at h.k
theorem seen_ok {p : Pln} (hg : Good p) {w : Int} {f : Int × Bool} (hw : inS p.sig.length w = true) (hf : OkF p f) : inS p.sig.length (seenB w f) = true := by
  unfold seenB
  split
  · exact hw
  rename_i h
  have hb : inS p.sig.length (shlI .i64 1 f.1) = true := by
    have hn := hg.n
    have h1 := hf.1
    have h2 := hf.2
    rw [inS_iff, pwI (by omega)]
    have key : ∀ n : Nat, n ≤ 5 → ∀ i : Nat, i < n → 0 ≤ shlI .i64 1 (i : Nat) ∧ shlI .i64 1 (i : Nat) < ((2 ^ n : Nat) : Int) := by
      have h : ((List.range 6).all fun n => (List.range n).all fun i => decide (0 ≤ shlI .i64 1 (i : Nat) ∧ shlI .i64 1 (i : Nat) < ((2 ^ n : Nat) : Int))) = true := by decide +kernel
      intro n hn i hi
      exact of_decide_eq_true (all_range (all_range h (i := n) (by omega)) hi)
    have := key p.sig.length hn f.1.toNat (by omega)
    rwa [show ((f.1.toNat : Nat) : Int) = f.1 by omega] at this
  split
  · exact (bits3 hg.n hw hb).1
  · exact (bits3 hg.n hw hb).2
theorem moved_ok {p : Pln} (hg : Good p) {s : Int × Int} (h : OkS p s) (hw : (stp p s).wait ≠ 0) : inS p.sig.length (movedW p s) = true := by
  have hm := (hg.stp h).moving hw
  exact (bits3 hg.n (bits3 hg.n h.2 hm.2.2.1).1 hm.2.2.2.1).2
theorem turn_ok {p : Pln} (hg : Good p) {s : Int × Int} {f : Int × Bool} {c : Int} (h : OkS p s) (hc : OkC p c) : OkS p (turnF p f s c).1 ∧ 1 ≤ (turnF p f s c).2 ∧ (turnF p f s c).2 ≤ 10000 := by
  have hs := hg.stp h
  unfold turnF
  split
  · exact ⟨⟨hs.trip, h.2⟩, Int.le_refl 1, by show (1 : Int) ≤ 10000; omega⟩
  split
  · refine ⟨?_, Int.le_refl 1, by show (1 : Int) ≤ 10000; omega⟩
    show OkS p (if c = -1 then s else (c, s.2))
    split
    · exact h
    · rename_i h1 h2
      exact ⟨hc.resolve_left h2, h.2⟩
  rename_i h1 h2
  have hw := moved_ok hg h h2
  have hm := hs.moving h2
  have hle := hs.w1
  split
  · exact ⟨⟨hs.trip, hw⟩, hm.2.2.2.2.1, Int.le_trans hm.2.2.2.2.2.1 hle⟩
  split
  · exact ⟨⟨hm.2.2.2.2.2.2.2, hw⟩, Int.le_trans hm.2.2.2.2.1 hm.2.2.2.2.2.1, hle⟩
  · exact ⟨⟨hm.2.2.2.2.2.2.1, hw⟩, hm.2.2.2.2.1, Int.le_trans hm.2.2.2.2.2.1 hle⟩
theorem hasI_mem {l : List Int} {x : Int} : hasI l x = true ↔ x ∈ l := by
  unfold hasI
  rw [List.any_eq_true]
  exact ⟨fun ⟨y, h1, h2⟩ => by rw [← eq_of_beq h2]; exact h1, fun h => ⟨x, h, by simp⟩⟩
theorem exit_ok {p : Pln} (hg : Good p) {s : Int × Int} (h : OkS p s) (hw : (stp p s).wait = 0) {c : Int} (hc : hasI (stp p s).exits c = true) : inX p.steps.length c = true := by
  obtain ⟨i, hi, e⟩ := List.getElem_of_mem (hasI_mem.1 hc)
  have := ((hg.stp h).steady hw).1 i hi
  rwa [show (stp p s).exits.getD i 0 = c by simp [List.getD, hi, e]] at this
theorem home_ok {p : Pln} (hg : Good p) {s : Int × Int} {f : Int × Bool} (h : OkS p s) {x : (Int × Int) × Int} (hx : homeTurnF p f s = some x) : OkS p x.1 ∧ 1 ≤ x.2 ∧ x.2 ≤ 10000 := by
  unfold homeTurnF at hx
  split at hx
  · rename_i h1
    split at hx
    · cases hx
    · rename_i h2
      cases hx
      exact turn_ok hg h (.inr (exit_ok hg h h1.1 (((hg.stp h).steady h1.1).2.resolve_right h2)))
  · cases hx
    exact turn_ok hg h (.inl rfl)

theorem S82 (a b : Int) (ha : 0 ≤ a ∧ a < 32) (hb : 0 ≤ b ∧ b < 32) : SP 82 [i64 a, i64 b] (vb (!lacksB a b)) false := by
  refine sound (d := 2) tok2 mixed2 Tryd.func82 (by kernel_rfl) (by kernel_rfl) ?_
  rw [bits1 ha hb]
  conv => whnf
  refine ⟨?_, nofun⟩
  refine endb ?_
  rw [Bool.not_not]; rfl
theorem S47 (p : Pln) (hg : Good p) (w : Int) (f : Int × Bool) (hw : inS p.sig.length w = true) (hf : OkF p f) : SP 47 [i64 w, ftA f] (i64 (seenB w f)) false := by
  have h32 := inS_32 hg.n hw
  have hn := hg.n
  have h1 := hf.1
  have h2 := hf.2
  have hk := seen_ok hg hw hf
  have hk32 := inS_32 hg.n hk
  have hb := bits2 (w := w) (f := f.1) h32
  unfold seenB at hk32 ⊢
  refine sound (d := 2) tok2 mixed2 Tryd.func47 (by kernel_rfl) (by kernel_rfl) ?_
  conv => whnf
  refine ifB_dec (fun w1 => ?_) (fun w1 => ?_)
  · conv => whnf
    refine ⟨?_, nofun⟩
    exact endi (if_pos w1).symm
  · conv => whnf
    refine ⟨(by omega), ?_⟩
    conv => whnf
    refine ifB_intro (fun w2 => ?_) (fun w2 => ?_)
    · conv => whnf
      refine ⟨(by omega), ?_⟩
      conv => whnf
      refine ⟨?_, ?_⟩
      · rw [hb ⟨by omega, by omega⟩]
        rw [if_neg w1, if_pos w2] at hk32
        exact inK64 (by omega) (by omega)
      · conv => whnf
        refine ⟨?_, nofun⟩
        refine endi (Eq.trans ?_ ((if_neg w1).trans (if_pos w2)).symm)
        exact hb ⟨by omega, by omega⟩
    · conv => whnf
      refine ⟨?_, nofun⟩
      exact endi ((if_neg w1).trans (if_neg (by rw [w2]; nofun))).symm
theorem S49 (p : Pln) (hg : Good p) (s : Int × Int) (f : Int × Bool) (c : Int) (hs : OkS p s) (hf : OkF p f) (hc : OkC p c) : SP 49 [planA p, stA s, ftA f, i64 c] (.tuple [stA (turnF p f s c).1, i64 (turnF p f s c).2]) false := by
  have hat := hs.at
  have hgs := hg.stp hs
  have h1 := S47 p hg s.2 f hs.2 hf
  have h2 := S82 (seenB s.2 f) (stp p s).needs (inS_32 hg.n (seen_ok hg hs.2 hf)) (inS_32 hg.n hgs.needs)
  have hcc : c = -1 ↔ c < 0 := by
    rcases hc with h | h
    · omega
    · have := inX_iff.1 h; omega
  refine sound (d := 2) tok2 mixed2 Tryd.func49 (by kernel_rfl) (by kernel_rfl) ?_
  by_cases hw : (stp p s).wait = 0
  · conv => whnf
    refine ⟨⟨(by omega), (by omega)⟩, ?_⟩
    conv => whnf
    refine ⟨[], by kernel_rfl, ?_⟩
    conv => whnf
    refine .inl ⟨_, _, byX rfl (Sound1.pl (h1) rfl), ?_⟩
    conv => whnf
    refine .inl ⟨_, _, byX rfl (Sound1.pl (h2) rfl), ?_⟩
    conv => whnf
    refine ifB_not ?_
    conv => whnf
    refine ifB_not ?_
    conv => whnf
    refine ifB_dec (fun w1 => ?_) (fun w1 => ?_)
    · conv => whnf
      refine ⟨?_, nofun⟩
      exact endT (if_pos (lk_t w1))
    · conv => whnf
      refine ifB_beq (fun w2 => ?_) (fun w2 => ?_)
      · conv => whnf
        refine ifB_dec (fun w3 => ?_) (fun w3 => ?_)
        · conv => whnf
          refine ⟨?_, nofun⟩
          exact endT ((if_neg (lk_n w1)).trans ((if_pos hw).trans (by rw [if_pos (hcc.2 w3)])))
        · conv => whnf
          refine ⟨?_, nofun⟩
          exact endT ((if_neg (lk_n w1)).trans ((if_pos hw).trans (by rw [if_neg (fun e => w3 (hcc.1 e))])))
      · exact absurd hw w2
  · have hmv := moved_ok hg hs hw
    have h32 := inS_32 hg.n (seen_ok hg hmv hf)
    have h3 := S47 p hg (movedW p s) f hmv hf
    have h4 := S82 (seenB (movedW p s) f) (stp p s).needs h32 (inS_32 hg.n hgs.needs)
    have h5 := S82 (seenB (movedW p s) f) (stp p s).on h32 (inS_32 hg.n (hgs.moving hw).1)
    conv => whnf
    refine ⟨⟨(by omega), (by omega)⟩, ?_⟩
    conv => whnf
    refine ⟨[], by kernel_rfl, ?_⟩
    conv => whnf
    refine .inl ⟨_, _, byX rfl (Sound1.pl (h1) rfl), ?_⟩
    conv => whnf
    refine .inl ⟨_, _, byX rfl (Sound1.pl (h2) rfl), ?_⟩
    conv => whnf
    refine ifB_not ?_
    conv => whnf
    refine ifB_not ?_
    conv => whnf
    refine ifB_dec (fun w1 => ?_) (fun w1 => ?_)
    · conv => whnf
      refine ⟨?_, nofun⟩
      exact endT (if_pos (lk_t w1))
    · conv => whnf
      refine ifB_beq (fun w2 => ?_) (fun w2 => ?_)
      · conv => whnf
        refine ifB_dec (fun w3 => ?_) (fun w3 => ?_)
        · conv => whnf
          refine ⟨?_, nofun⟩
          exact absurd w2 hw
        · conv => whnf
          refine ⟨?_, nofun⟩
          exact absurd w2 hw
      · conv => whnf
        refine .inl ⟨_, _, byX rfl (Sound1.pl (h3) rfl), ?_⟩
        conv => whnf
        refine .inl ⟨_, _, byX rfl (Sound1.pl (h4) rfl), ?_⟩
        conv => whnf
        refine ifB_not ?_
        conv => whnf
        refine ifB_not ?_
        conv => whnf
        refine ifB_dec (fun w3 => ?_) (fun w3 => ?_)
        · conv => whnf
          refine ⟨[(5, 6)], by kernel_rfl, ?_⟩
          conv => whnf
          refine ⟨?_, nofun⟩
          exact endT ((if_neg (lk_n w1)).trans ((if_neg hw).trans (if_pos (lk_t w3))))
        · conv => whnf
          refine .inl ⟨_, _, byX rfl (Sound1.pl (h5) rfl), ?_⟩
          conv => whnf
          refine ifB_not ?_
          conv => whnf
          refine ifB_dec (fun w4 => ?_) (fun w4 => ?_)
          · conv => whnf
            refine ⟨[(5, 6)], by kernel_rfl, ?_⟩
            conv => whnf
            refine ⟨?_, nofun⟩
            exact endT ((if_neg (lk_n w1)).trans ((if_neg hw).trans ((if_neg (lk_n w3)).trans (if_pos (Bool.or_eq_true_iff.2 (.inl (lk_t w4)))))))
          · conv => whnf
            refine ifB_beq (fun w5 => ?_) (fun w5 => ?_)
            · conv => whnf
              refine ⟨[(5, 6)], by kernel_rfl, ?_⟩
              conv => whnf
              refine ⟨?_, nofun⟩
              exact endT ((if_neg (lk_n w1)).trans ((if_neg hw).trans ((if_neg (lk_n w3)).trans (if_neg fun e => (Bool.or_eq_true_iff.1 e).elim (lk_n w4) fun e => (of_decide_eq_true e) w5))))
            · conv => whnf
              refine ⟨[(5, 6)], by kernel_rfl, ?_⟩
              conv => whnf
              refine ⟨?_, nofun⟩
              exact endT ((if_neg (lk_n w1)).trans ((if_neg hw).trans ((if_neg (lk_n w3)).trans (if_pos (Bool.or_eq_true_iff.2 (.inr (decide_eq_true w5)))))))
theorem S48 (p : Pln) (hg : Good p) (s : Int × Int) (c : Int) (hs : OkS p s) : SP 48 [planA p, stA s, i64 c] (vb (decide (c = -1) || (decide ((stp p s).wait = 0) && hasI (stp p s).exits c))) false := by
  have hat := hs.at
  have hx := hg.few.exits _ hs.k
  have h93 := S93 (stp p s).exits (by show ((p.steps.getD s.1.toNat stp0).exits).length ≤ _; omega) c
  refine sound (d := 2) tok2 mixed2 Tryd.func48 (by kernel_rfl) (by kernel_rfl) ?_
  conv => whnf
  refine ⟨⟨(by omega), (by omega)⟩, ?_⟩
  conv => whnf
  refine ifB_beq (fun w1 => ?_) (fun w1 => ?_)
  · conv => whnf
    refine ⟨?_, nofun⟩
    refine endb ?_
    rw [decide_eq_true w1]; rfl
  · conv => whnf
    refine ifB_beq (fun w2 => ?_) (fun w2 => ?_)
    · conv => whnf
      refine .inl ⟨_, _, byX rfl (Sound1.pl (h93) rfl), ?_⟩
      conv => whnf
      refine ⟨?_, nofun⟩
      have w2 : (stp p s).wait = 0 := w2
      refine endb ?_
      rw [decide_eq_false w1, decide_eq_true w2, Bool.true_and]; rfl
    · conv => whnf
      refine ⟨?_, nofun⟩
      have w2 : ¬ (stp p s).wait = 0 := w2
      refine endb ?_
      rw [decide_eq_false w1, decide_eq_false w2]; rfl
theorem S91 (s : Stp) (c : Int) (hx : s.exits.length ≤ 1000) : SP 91 [stepA s, i64 c] (vb (decide (c = -1) || (decide (s.wait = 0) && hasI s.exits c))) false := by
  have h94 := S94 s.exits (by omega) c
  have h70 := S70 s
  refine sound (d := 2) tok2 mixed2 Tryd.func91 (by kernel_rfl) (by kernel_rfl) ?_
  conv => whnf
  refine ifB_beq (fun w1 => ?_) (fun w1 => ?_)
  · conv => whnf
    refine ⟨?_, nofun⟩
    refine endb ?_
    rw [decide_eq_true w1]; rfl
  · conv => whnf
    refine .inl ⟨_, _, byX rfl (Sound1.pl (h70) rfl), ?_⟩
    conv => whnf
    refine ifB_dec (fun w2 => ?_) (fun w2 => ?_)
    · conv => whnf
      refine .inl ⟨_, _, byX rfl (Sound1.pl (h94) rfl), ?_⟩
      conv => whnf
      refine ⟨?_, nofun⟩
      refine endb ?_
      rw [decide_eq_false w1, decide_eq_true w2, Bool.true_and]; rfl
    · conv => whnf
      refine ⟨?_, nofun⟩
      refine endb ?_
      rw [decide_eq_false w1, decide_eq_false w2]; rfl
theorem S46 (p : Pln) (hg : Good p) (s : Int × Int) (f : Int × Bool) (hs : OkS p s) (hf : OkF p f) : SP 46 [planA p, stA s, ftA f] (htA (homeTurnF p f s)) false := by
  have hat := hs.at
  have hgs := hg.stp hs
  have h1 := S47 p hg s.2 f hs.2 hf
  have h2 := S82 (seenB s.2 f) (stp p s).needs (inS_32 hg.n (seen_ok hg hs.2 hf)) (inS_32 hg.n hgs.needs)
  have h3 := S49 p hg s f (-1) hs hf (.inl rfl)
  have h4 := fun h : OkC p (stp p s).home => S49 p hg s f (stp p s).home hs hf h
  refine sound (d := 2) tok2 mixed2 Tryd.func46 (by kernel_rfl) (by kernel_rfl) ?_
  conv => whnf
  refine ⟨⟨(by omega), (by omega)⟩, ?_⟩
  conv => whnf
  refine ⟨[], by kernel_rfl, ?_⟩
  conv => whnf
  refine ifB_beq (fun w1 => ?_) (fun w1 => ?_)
  · conv => whnf
    refine ifB_not ?_
    conv => whnf
    refine ifB_intro (fun w2 => ?_) (fun w2 => ?_)
    · conv => whnf
      refine .inl ⟨_, _, byX rfl (Sound1.pl (h3) rfl), ?_⟩
      conv => whnf
      refine ⟨?_, nofun⟩
      exact endH (if_neg fun h => Bool.noConfusion (h.2.1.symm.trans w2))
    · conv => whnf
      refine .inl ⟨_, _, byX rfl (Sound1.pl (h1) rfl), ?_⟩
      conv => whnf
      refine .inl ⟨_, _, byX rfl (Sound1.pl (h2) rfl), ?_⟩
      conv => whnf
      refine ifB_not ?_
      conv => whnf
      refine ifB_dec (fun w3 => ?_) (fun w3 => ?_)
      · conv => whnf
        refine .inl ⟨_, _, byX rfl (Sound1.pl (h3) rfl), ?_⟩
        conv => whnf
        refine ⟨?_, nofun⟩
        exact endH (if_neg fun h => Bool.noConfusion (h.2.2.symm.trans (lk_t w3)))
      · conv => whnf
        refine ifB_beq (fun w4 => ?_) (fun w4 => ?_)
        · conv => whnf
          refine ⟨?_, nofun⟩
          exact endH0 ((if_pos ⟨w1, w2, lk_f w3⟩).trans (if_pos (Int.ofNat.inj w4)))
        · conv => whnf
          refine .inl ⟨_, _, byX rfl (Sound1.pl (h4 ?_) rfl), ?_⟩
          · exact .inr (exit_ok hg hs w1 ((hgs.steady w1).2.resolve_right fun e => w4 (congrArg Int.ofNat e)))
          · conv => whnf
            refine ⟨?_, nofun⟩
            exact endH ((if_pos ⟨w1, w2, lk_f w3⟩).trans (if_neg fun e => w4 (congrArg Int.ofNat e)))
  · conv => whnf
    refine .inl ⟨_, _, byX rfl (Sound1.pl (h3) rfl), ?_⟩
    conv => whnf
    refine ⟨?_, nofun⟩
    exact endH (if_neg fun h => w1 h.1)
theorem wait_home {p : Pln} (hg : Good p) {s : Int × Int} (hs : OkS p s) (h : (stp p s).safe = true) : (stp p s).wait = 0 := by
  by_cases hw : (stp p s).wait = 0
  · exact hw
  · have h1 := hg.step _ hs.k
    exfalso
    have h2 : _ = _ := (step_form p (stp p s) _).symm.trans h1
    split at h2
    · rename_i h3; exact absurd h2 h3
    split at h2
    · have h4 : movingE p.sig.length p.steps.length (stp p s) = 0 := h2
      rw [moving_form, if_pos h] at h4; cases h4
    · cases h2
def homeB (p : Pln) (f : Int × Bool) (s : Int × Int) : Bool := ((stp p s).safe && decide ((stp p s).wait = 0)) && !lacksB (seenB s.2 f) (stp p s).needs
theorem S31 (p : Pln) (hg : Good p) (s : Int × Int) (f : Int × Bool) (hs : OkS p s) (hf : OkF p f) : SP 31 [planA p, stA s, ftA f] (vb (homeB p f s)) false := by
  have hat := hs.at
  have hgs := hg.stp hs
  have h1 := S47 p hg s.2 f hs.2 hf
  have h2 := S82 (seenB s.2 f) (stp p s).needs (inS_32 hg.n (seen_ok hg hs.2 hf)) (inS_32 hg.n hgs.needs)
  refine sound (d := 2) tok2 mixed2 Tryd.func31 (by kernel_rfl) (by kernel_rfl) ?_
  conv => whnf
  refine ⟨[], by kernel_rfl, ?_⟩
  conv => whnf
  refine ⟨⟨(by omega), (by omega)⟩, ?_⟩
  conv => whnf
  refine ifB_intro (fun w1 => ?_) (fun w1 => ?_)
  · conv => whnf
    refine .inl ⟨_, _, byX rfl (Sound1.pl (h1) rfl), ?_⟩
    conv => whnf
    refine ⟨⟨(by omega), (by omega)⟩, ?_⟩
    conv => whnf
    refine .inl ⟨_, _, byX rfl (Sound1.pl (h2) rfl), ?_⟩
    conv => whnf
    refine ⟨?_, nofun⟩
    have w1 : (stp p s).safe = true := w1
    refine endb ?_
    unfold homeB
    rw [w1, decide_eq_true (wait_home hg hs w1)]; rfl
  · conv => whnf
    refine ⟨?_, nofun⟩
    have w1 : (stp p s).safe = false := w1
    refine endb ?_
    unfold homeB
    rw [w1]; rfl
end Go.Tr

/- Plain laws of chapter 7: turn after turn. Conditions: none. -/
namespace Go.Tr
open Go Go.Proofs
set_option maxRecDepth 20000
set_option maxHeartbeats 8000000

abbrev S2 := Int × Int
/-- Step after step until it stops, at most so many times. -/
def goA (stop : S2 → Bool) (step : S2 → Option (S2 × Int)) : Nat → S2 → List S2 → Int → Option (List S2 × Int)
  | 0, _, _, _ => none
  | n + 1, s, l, t => if stop s then some (l, t) else match step s with | none => none | some x => goA stop step n x.1 (l ++ [x.1]) (t + x.2)
def goT (stop : S2 → Bool) (step : S2 → Option (S2 × Int)) : Nat → S2 → Bool
  | 0, _ => false
  | n + 1, s => stop s || match step s with | none => false | some x => goT stop step n x.1
section
variable {stop : S2 → Bool} {step : S2 → Option (S2 × Int)}
theorem goA_T : ∀ (f : Nat) (s : S2) (l : List S2) (t : Int), (goA stop step f s l t).isSome = goT stop step f s
  | 0, _, _, _ => rfl
  | f + 1, s, l, t => by
    unfold goA goT
    cases h : stop s with
    | true => simp
    | false =>
      cases hs : step s with
      | none => simp
      | some x => simpa using goA_T f x.1 _ _
theorem goA_none {f : Nat} {s : S2} {l : List S2} {t : Int} (h : goT stop step f s = false) : goA stop step f s l t = none := by
  have := goA_T (stop := stop) (step := step) f s l t
  rw [h] at this
  exact Option.isNone_iff_eq_none.1 (by cases hx : goA stop step f s l t <;> simp_all)
theorem goA_mono : ∀ (f d : Nat) (s : S2) (l : List S2) (t : Int) (r : List S2 × Int), goA stop step f s l t = some r → goA stop step (f + d) s l t = some r
  | 0, d, s, l, t, r, h => by cases h
  | f + 1, d, s, l, t, r, h => by
    rw [show f + 1 + d = (f + d) + 1 by omega]
    unfold goA at h ⊢
    split
    · rename_i hs; rw [if_pos hs] at h; exact h
    · rename_i hs
      rw [if_neg hs] at h
      cases hx : step s with
      | none => rw [hx] at h; cases h
      | some x =>
        rw [hx] at h
        exact goA_mono f d _ _ _ r h
theorem goT_mono {f d : Nat} {s : S2} (h : goT stop step f s = true) : goT stop step (f + d) s = true := by
  rw [← goA_T f s [] 0] at h
  obtain ⟨r, hr⟩ := Option.isSome_iff_exists.1 h
  rw [← goA_T (f + d) s [] 0, goA_mono f d s [] 0 r hr]; rfl
theorem goT_cycle {s : S2} {j : Nat} (hj : 1 ≤ j) (h : ∀ f, goT stop step (j + f) s = goT stop step f s) (f : Nat) : goT stop step f s = false := by
  have key : ∀ i, goT stop step (j * i) s = false := by
    intro i
    induction i with
    | zero => rfl
    | succ i ih => rw [Nat.mul_succ, Nat.add_comm, h, ih]
  cases hf : goT stop step f s with
  | false => rfl
  | true =>
    have : f ≤ j * f := Nat.le_mul_of_pos_left f hj
    have h2 := goT_mono (d := j * f - f) hf
    rw [show f + (j * f - f) = j * f by omega, key] at h2
    cases h2
/-- What was met before. -/
def Met (stop : S2 → Bool) (step : S2 → Option (S2 × Int)) (s : S2) (been : List S2) : Prop := ∀ x ∈ been, ∃ j, 1 ≤ j ∧ ∀ f, goT stop step (j + f) x = goT stop step f s
theorem Met.nil (s : S2) : Met stop step s [] := fun x hx => by cases hx
theorem Met.next {s : S2} {been : List S2} (h : Met stop step s been) (hs : stop s = false) {x : S2 × Int} (hx : step s = some x) : Met stop step x.1 (been ++ [s]) := by
  have hu : ∀ f, goT stop step (f + 1) s = goT stop step f x.1 := fun f => by
    show (stop s || match step s with | none => false | some x => goT stop step f x.1) = _
    rw [hs, hx]; rfl
  intro y hy
  rcases List.mem_append.1 hy with h1 | h1
  · obtain ⟨j, hj, h2⟩ := h y h1
    exact ⟨j + 1, by omega, fun f => by rw [show j + 1 + f = j + (f + 1) by omega, h2, hu]⟩
  · rw [List.mem_singleton.1 h1]
    exact ⟨1, Nat.le_refl 1, fun f => by rw [Nat.add_comm 1 f, hu]⟩
theorem Met.again {s : S2} {been : List S2} (h : Met stop step s been) (hm : s ∈ been) (f : Nat) : goT stop step f s = false := by
  obtain ⟨j, hj, h2⟩ := h s hm
  exact goT_cycle hj h2 f
theorem goT_stable {Ok : S2 → Prop} (hOk : ∀ s x, Ok s → step s = some x → Ok x.1) {N : Nat} (hN : ∀ l : List S2, l.Nodup → (∀ x ∈ l, Ok x) → l.length ≤ N) : ∀ (f : Nat) (s : S2) (been : List S2), been.Nodup → (∀ x ∈ been, Ok x) → Ok s → Met stop step s been →
    goT stop step f s = true → goT stop step (N + 1 - been.length) s = true
  | 0, _, _, _, _, _, _, h => by cases h
  | f + 1, s, been, hnd, hb, hs, hm, h => by
    have hl := hN been hnd hb
    rw [show N + 1 - been.length = (N - been.length) + 1 by omega]
    have h0 := h
    unfold goT at h ⊢
    cases hst : stop s with
    | true => rfl
    | false =>
      rw [hst] at h
      cases hx : step s with
      | none => rw [hx] at h; cases h
      | some x =>
        rw [hx] at h
        have hns : s ∉ been := fun hmem => by rw [hm.again hmem] at h0; cases h0
        have := goT_stable hOk hN f x.1 (been ++ [s]) (by
          rw [List.nodup_append]
          exact ⟨hnd, by simp, fun a ha b hb2 e => hns (by rw [← List.mem_singleton.1 hb2, ← e]; exact ha)⟩) (fun y hy => by
          rcases List.mem_append.1 hy with h1 | h1
          · exact hb y h1
          · rw [List.mem_singleton.1 h1]; exact hs) (hOk s x hs hx) (hm.next hst hx) h
        rw [show N + 1 - (been ++ [s]).length = N - been.length by simp] at this
        simpa using this
theorem goA_stable {Ok : S2 → Prop} (hOk : ∀ s x, Ok s → step s = some x → Ok x.1) {N : Nat} (hN : ∀ l : List S2, l.Nodup → (∀ x ∈ l, Ok x) → l.length ≤ N) {s : S2} (hs : Ok s) (l : List S2) (t : Int) {F : Nat} (hF : N + 1 ≤ F) : goA stop step F s l t = goA stop step (N + 1) s l t := by
  cases h : goT stop step (N + 1) s with
  | true =>
    rw [← goA_T (N + 1) s l t] at h
    obtain ⟨r, hr⟩ := Option.isSome_iff_exists.1 h
    rw [hr, show F = (N + 1) + (F - (N + 1)) by omega, goA_mono _ _ _ _ _ r hr]
  | false =>
    rw [goA_none h]
    cases h2 : goT stop step F s with
    | false => exact goA_none h2
    | true =>
      have := goT_stable hOk hN F s [] (by simp) (fun x hx => by cases hx) hs (Met.nil s) h2
      simp at this
      rw [this] at h; cases h
end

/-! ### How many states there are -/

theorem nodup_len : ∀ (n : Nat) (l : List Nat), l.Nodup → (∀ x ∈ l, x < n) → l.length ≤ n
  | 0, [], _, _ => Nat.le_refl 0
  | 0, x :: r, _, h => absurd (h x (List.mem_cons_self ..)) (Nat.not_lt_zero x)
  | n + 1, l, hn, h => by
    have h1 := nodup_len n (l.filter fun x => x != n) (hn.sublist (List.filter_sublist ..)) fun x hx => by
      have h2 := List.mem_filter.1 hx
      have := h x h2.1
      have h3 : x ≠ n := by simpa using h2.2
      omega
    have h2 : l.length ≤ (l.filter fun x => x != n).length + 1 := by
      clear h1 h
      induction l with
      | nil => simp
      | cons y r ih =>
        rw [List.filter_cons]
        have hr := (List.nodup_cons.1 hn)
        by_cases hy : y = n
        · subst hy
          have hf : r.filter (fun x => x != y) = r := List.filter_eq_self.2 fun x hx => by
            have : x ≠ y := fun e => hr.1 (e ▸ hx)
            simpa using this
          simp [hf]
        · have := ih hr.2
          simp [hy]; omega
    omega
/-- The number of states. -/
def allN (p : Pln) : Nat := 2 ^ p.sig.length * p.steps.length
theorem states_le {p : Pln} (hg : Good p) (l : List S2) (hn : l.Nodup) (h : ∀ x ∈ l, OkS p x) : l.length ≤ allN p := by
  have hp : 0 < 2 ^ p.sig.length := Nat.two_pow_pos _
  have hco : ∀ x, OkS p x → (0 ≤ x.1 ∧ x.1 < p.steps.length) ∧ 0 ≤ x.2 ∧ x.2 < ((2 ^ p.sig.length : Nat) : Int) := fun x hx => by
    have h1 := inX_iff.1 hx.1
    have h2 := inS_iff.1 hx.2
    rw [pwI (by have := hg.n; omega)] at h2
    exact ⟨h1, h2⟩
  have key := nodup_len (allN p) (l.map fun x => x.1.toNat * 2 ^ p.sig.length + x.2.toNat) ?_ ?_
  · simpa using key
  · unfold List.Nodup at hn ⊢
    rw [List.pairwise_map]
    refine List.Pairwise.imp_of_mem (fun {a b} ha hb hab e => ?_) hn
    have h1 := hco a (h a ha)
    have h2 := hco b (h b hb)
    have e1 : a.2.toNat = b.2.toNat := by
      have := congrArg (· % 2 ^ p.sig.length) e
      simp only [Nat.mul_add_mod_self_right] at this
      rwa [Nat.mod_eq_of_lt (by omega), Nat.mod_eq_of_lt (by omega)] at this
    have e2 : a.1.toNat = b.1.toNat := by
      rw [e1] at e
      exact Nat.eq_of_mul_eq_mul_right hp (Nat.add_right_cancel e)
    exact hab (Prod.ext (by omega) (by omega))
  · intro x hx
    obtain ⟨y, hy, rfl⟩ := List.mem_map.1 hx
    have h1 := hco y (h y hy)
    unfold allN
    have : y.1.toNat + 1 ≤ p.steps.length := by omega
    have := Nat.mul_le_mul_right (2 ^ p.sig.length) this
    rw [Nat.add_mul] at this
    have e := Nat.mul_comm p.steps.length (2 ^ p.sig.length)
    omega

/-! ### Settled, and home -/

def stopS (p : Pln) (s : S2) : Bool := decide ((stp p s).wait = 0)
def stepS (p : Pln) (f : Int × Bool) (s : S2) : Option (S2 × Int) := some (turnF p f s (-1))
def settledF (p : Pln) (f : Int × Bool) (s : S2) (l : List S2) (t : Int) : Option (List S2 × Int) := goA (stopS p) (stepS p f) (allN p + 1) s l t
def commandF (p : Pln) (f : Int × Bool) (s : S2) (c : Int) : Option (List S2 × Int) := settledF p f (turnF p f s c).1 [(turnF p f s c).1] (turnF p f s c).2
def homeF (p : Pln) (f : Int × Bool) (s : S2) : Option (List S2 × Int) := goA (homeB p f) (homeTurnF p f) (allN p + 1) s [] 0
theorem stepS_ok {p : Pln} (hg : Good p) (f : Int × Bool) : ∀ s x, OkS p s → stepS p f s = some x → OkS p x.1 := fun s x hs hx => by
  cases hx
  exact (turn_ok hg hs (.inl rfl)).1
theorem stepH_ok {p : Pln} (hg : Good p) (f : Int × Bool) : ∀ s x, OkS p s → homeTurnF p f s = some x → OkS p x.1 := fun _ _ hs hx => (home_ok hg hs hx).1
end Go.Tr

/- Contracts of chapter 7: settled, and home. Conditions: none. -/
namespace Go.Tr
open Go Go.Proofs
set_option maxRecDepth 20000
set_option maxHeartbeats 8000000

/-! ### States as keys -/

def decL : List Value → Option S2
  | [.int _ a, .int _ b] => some (a, b)
  | _ => none
def decS : Value → Option S2
  | .agg l => decL l.toList
  | _ => none
def hasM (B : S2 → Bool) (v : Value) : Bool := match decS v with | some x => B x | none => false
def keyV (s : S2) : Value := .agg #[.int .i64 s.1, .int .i64 s.2]
theorem keyL (L : List Value) (s : S2) : vEqL L [.int .i64 s.1, .int .i64 s.2] = match decL L with | some x => decide (x = s) | none => false := by
  match L with
  | [] => rfl
  | [x] => cases x <;> simp [vEqL, decL]
  | [x, y] =>
    cases x <;> cases y <;> simp [vEqL, decL]
    rw [Bool.eq_iff_iff]
    simp [Prod.ext_iff]
  | x :: y :: z :: r =>
    cases x <;> cases y <;> simp [vEqL, decL]
theorem keyD (v : Value) (s : S2) : opEv.keyEq v (keyV s) = hasM (fun x => decide (x = s)) v := by
  cases v with
  | agg l => exact keyL l.toList s
  | _ => rfl
theorem hasM_key (B : S2 → Bool) (s : S2) : hasM B (keyV s) = B s := rfl
theorem hasM_or (B C : S2 → Bool) (v : Value) : Bool.or (hasM B v) (hasM C v) = hasM (fun x => B x || C x) v := by
  unfold hasM
  cases decS v <;> rfl
theorem hasM_nil (v : Value) : hasM (fun x => decide (x ∈ ([] : List S2))) v = false := by
  unfold hasM
  cases decS v with
  | none => rfl
  | some x => simp
theorem hasM_put (been : List S2) (s : S2) (v : Value) : Bool.or (hasM (fun x => decide (x ∈ been)) v) (opEv.keyEq v (keyV s)) = hasM (fun x => decide (x ∈ been ++ [s])) v := by
  rw [keyD, hasM_or]
  congr 1
  funext x
  rw [Bool.eq_iff_iff]
  simp
theorem hasM_vb (been : List S2) (s : S2) (v : Value) : (bif opEv.keyEq v (keyV s) then vb true else vb (hasM (fun x => decide (x ∈ been)) v)) = vb (hasM (fun x => decide (x ∈ been ++ [s])) v) := by
  rw [← hasM_put]
  cases opEv.keyEq v (keyV s) <;> simp

def stC (s : S2) : List AV := [i64 s.1, i64 s.2]
/-- States. -/
def sts (l : List S2) : AV := .rslice 2 l.length fun i => stC (l.getD i (0, 0))
def runA : Option (List S2 × Int) → AV
  | none => .tuple [sts [], i64 0, vb false]
  | some x => .tuple [sts x.1, i64 x.2, vb true]
section
variable {stop : S2 → Bool} {step : S2 → Option (S2 × Int)}
theorem goA_stop {n : Nat} {s : S2} {l : List S2} {t : Int} (h : stop s = true) : goA stop step (n + 1) s l t = some (l, t) := by
  unfold goA
  rw [h]; rfl
theorem goA_step {n : Nat} {s : S2} {l : List S2} {t : Int} (h : stop s = false) {x : S2 × Int} (hx : step s = some x) : goA stop step (n + 1) s l t = goA stop step n x.1 (l ++ [x.1]) (t + x.2) := by
  conv => lhs; unfold goA
  rw [h, hx]; rfl
end
theorem allN_le {p : Pln} (hg : Good p) : allN p ≤ 320 := by
  have h1 : 2 ^ p.sig.length ≤ 2 ^ 5 := Nat.pow_le_pow_right (by decide) hg.n
  have := Nat.mul_le_mul h1 hg.m
  unfold allN
  omega
theorem ave_run {x : Option (List S2 × Int)} {l : List S2} {t : Int} (h : x = some (l, t)) : AVE 5 (.tuple [sts l, i64 t, vb true]) (runA x) := by
  rw [h]
  exact ave_tup3 ⟨rfl, rfl, fun _ _ => rfl⟩ rfl rfl
theorem ave_run0 {x : Option (List S2 × Int)} (h : x = none) : AVE 5 (.tuple [.eslice, i64 0, vb false]) (runA x) := by
  rw [h]
  exact ave_tup3 rfl rfl rfl
theorem sts_row {l : List S2} {n : Nat} (hn : l.length = n) (x : S2) (i : Nat) (h : i < n + 1) : stC ((l ++ [x]).getD i (0, 0)) = if i < n then stC (l.getD (0 + i) (0, 0)) else List.take 2 (List.drop ((i - n) * 2) (stC x)) := by
  subst hn
  rw [Nat.zero_add]
  by_cases hi : i < l.length
  · rw [if_pos hi]; simp [List.getD_eq_getElem?_getD, hi, List.getElem?_append_left hi]
  · have : i = l.length := by omega
    subst this
    rw [if_neg hi]; simp [List.getD_eq_getElem?_getD, stC]
/-- The last one of k + 1 states. -/
abbrev lastS (k : Nat) (l : List S2) : S2 := l.getD (0 + (((k + 1 : Nat) : Int) - 1).toNat) (0, 0)
theorem lastS_app {k : Nat} {l : List S2} (hn : l.length = k + 1) (x : S2) : lastS (k + 1) (l ++ [x]) = x := by
  unfold lastS
  rw [show 0 + (((k + 1 + 1 : Nat) : Int) - 1).toNat = l.length by omega]
  simp
theorem S95 (p : Pln) (hg : Good p) (f : Int × Bool) (s0 : S2) (c : Int) (hs0 : OkS p s0) (hc : OkC p c) : SP 95 [planA p, stA s0, ftA f, i64 c] (runA (commandF p f s0 c)) false := by
  have hat0 := hs0.at
  have h0 := S92 p s0 f c hat0
  have hok0 := turn_ok hg hs0 (f := f) hc
  unfold commandF
  generalize (turnF p f s0 c).1 = s1 at h0 hok0
  generalize (turnF p f s0 c).2 = t0 at h0 hok0
  generalize hR : settledF p f s1 [s1] t0 = R
  refine sound (d := 2) tok2 mixed2 Tryd.func95 (by kernel_rfl) (by kernel_rfl) ?_
  conv => whnf
  refine .inl ⟨_, _, byX rfl (Sound1.pl (h0) rfl), ?_⟩
  conv => whnf
  refine .inr ⟨[], ?_⟩
  conv => whnf
  refine ⟨[.uncap 1, .forget [23]], [1, 3, 4, 6, 11], fun st mq => ∃ (k : Nat) (l : List S2) (t : Int) (been : List S2) (F1 : Nat → List AV) (F2 : Nat → List AV) (F3 : Nat → List AV), (l.length = k + 1) ∧ (OkS p (lastS k l)) ∧ (been.Nodup) ∧ (∀ x ∈ been, OkS p x) ∧ (Met (stopS p) (stepS p f) (lastS k l) been) ∧ (been.length = k) ∧ (0 ≤ t ∧ t ≤ 10000 * ((k : Int) + 1)) ∧ (∀ f', goA (stopS p) (stepS p f) (k + f') s1 [s1] t0 = goA (stopS p) (stepS p f) f' (lastS k l) l t) ∧ st = ⟨[(1, .oslice 4 0 0 (k + 1) none), (3, i64 t), (4, .optr 5 0 0 0), (6, .optr 6 0 0 0), (11, .omap 0)], ⟨[⟨3, 1, fun _ => planC p, 0, false, true, true⟩, ⟨2, 1, F1, 0, false, true, false⟩, ⟨2, 1, F2, 0, false, true, false⟩, ⟨2, 1, F3, 0, false, true, false⟩, ⟨2, k + 1, fun i => stC (l.getD i (0, 0)), 0, false, true, false⟩, ⟨3, 1, fun _ => planC p, 0, false, true, true⟩, ⟨2, 1, fun _ => [i64 f.1, vb f.2], 0, false, true, true⟩], [⟨.agg [.int .i64, .int .i64], 4, hasM fun x => decide (x ∈ been), fun v => vb (hasM (fun x => decide (x ∈ been)) v), false, none, 0, .top⟩], none, 0⟩, [(25, i64 t0), (24, ftA f), (22, stA s1), (21, planA p), (12, i64 t0), (11, .optr 3 0 0 0), (20, i64 t0), (19, stA s1), (13, .tuple [stA s1, i64 t0]), (18, .tuple [stA s1, i64 t0]), (17, i64 c), (16, ftA f), (15, stA s0), (14, planA p), (10, vb false), (9, i64 0), (8, .eslice), (6, .optr 2 0 0 0), (5, .optr 1 0 0 0), (4, .optr 0 0 0 0), (0, planA p), (1, stA s0), (2, ftA f), (3, i64 c)]⟩ ∧ mq = allN p + 1 - k,
    ⟨_, _, ⟨0, [s1], t0, [], _, _, _, rfl, (by simpa [lastS] using hok0.1), by simp, (fun x hx => by cases hx), Met.nil _, rfl, by omega, (fun f' => by simp [lastS]), rfl, rfl⟩, ⟨⟨.inl rfl, rfl, rfl, rfl⟩, ⟨⟨rfl, rfl, rfl, rfl, fun _ => rfl, fun _ _ => .inl rfl⟩, ⟨⟨rfl, rfl, rfl, rfl, fun _ => rfl, fun _ _ => .inl rfl⟩, ⟨⟨rfl, rfl, rfl, rfl, fun _ => rfl, fun _ _ => .inl rfl⟩, ⟨⟨rfl, rfl, rfl, rfl, fun _ => rfl, fun _ _ => .inl rfl⟩, ⟨⟨rfl, rfl, rfl, rfl, fun _ => rfl, fun i h => .inl ((by cases (Nat.lt_one_iff.1 h); rfl))⟩, ⟨⟨rfl, rfl, rfl, rfl, fun _ => rfl, fun _ _ => .inl rfl⟩, ⟨⟨rfl, rfl, rfl, rfl, fun _ => rfl, fun _ _ => .inl rfl⟩, trivial⟩⟩⟩⟩⟩⟩⟩, ⟨⟨rfl, rfl, rfl, trivial, .inl rfl, fun v => And.imp id Or.inl (⟨hasM_nil v, congrArg (fun b => vb b) (hasM_nil v)⟩)⟩, trivial⟩⟩⟩, ?_⟩
  rintro s0 m0 ⟨k, l, t, been, F1, F2, F3, hn, hs, hbn, hbo, hm, hk, ht, hR1, rfl, hmeas⟩
  have hN := states_le hg been hbn hbo
  have hA := allN_le hg
  have hRk : R = goA (stopS p) (stepS p f) (allN p - k + 1) (lastS k l) l t := by
    rw [← hR, ← hR1, show k + (allN p - k + 1) = allN p + 1 by omega]; rfl
  have h70 := S70 (stp p (lastS k l))
  have h92 := S92 p (lastS k l) f (-1) hs.at
  have hok := turn_ok hg hs (f := f) (c := -1) (.inl rfl)
  have hb27 : Tryd.prog.types[27].bytes = 16 := by kernel_rfl
  conv => whnf
  conv => whnf
  refine ⟨inK64 (by omega) (by omega), ?_⟩
  conv => whnf
  conv => whnf
  refine ⟨⟨(by omega), (by omega)⟩, ?_⟩
  conv => whnf
  conv => whnf
  refine ⟨?_, ?_⟩
  · exact hs.at
  · conv => whnf
    conv => whnf
    refine .inl ⟨_, _, byX rfl (Sound1.pl (h70) rfl), ?_⟩
    conv => whnf
    conv => whnf
    refine ifB_dec (fun w1 => ?_) (fun w1 => ?_)
    · conv => whnf
      conv => whnf
      refine ⟨?_, nofun⟩
      have e := hRk.trans (goA_stop (decide_eq_true w1))
      rw [e]
      refine ave_tup3 ⟨rfl, hn.symm, fun _ _ => rfl⟩ rfl rfl
    · conv => whnf
      conv => whnf
      refine ifB_intro (fun w2 => ?_) (fun w2 => ?_)
      · conv => whnf
        conv => whnf
        refine ⟨?_, nofun⟩
        have hmem : lastS k l ∈ been := of_decide_eq_true w2
        exact ave_run0 (hRk.trans (goA_none (hm.again hmem _)))
      · conv => whnf
        conv => whnf
        refine .inl ⟨_, _, byX rfl (Sound1.pl (h92) rfl), ?_⟩
        conv => whnf
        conv => whnf
        refine .inl ?_
        conv => whnf
        conv => whnf
        refine ⟨(by show _ * (16 + 1) ≤ _; omega), ?_⟩
        conv => whnf
        conv => whnf
        refine ⟨inK64 (by omega) (by omega), ?_⟩
        have hst : stopS p (lastS k l) = false := decide_eq_false w1
        have hno : lastS k l ∉ been := of_decide_eq_false w2
        conv => whnf
        conv => whnf
        refine ⟨_, _, ⟨⟨k + 1, l ++ [(turnF p f (lastS k l) (-1)).1], t + (turnF p f (lastS k l) (-1)).2, been ++ [lastS k l], _, _, _, by simp [hn], (by rw [lastS_app hn]; exact hok.1), (List.nodup_append.2 ⟨hbn, by simp, fun a ha b hb e => hno (by rw [← List.mem_singleton.1 hb, ← e]; exact ha)⟩), (fun x hx => (List.mem_append.1 hx).elim (hbo x) fun h => by rw [List.mem_singleton.1 h]; exact hs), (by rw [lastS_app hn]; exact hm.next hst rfl), by simp [hk], by omega, (fun f' => by rw [lastS_app hn, show k + 1 + f' = k + (f' + 1) by omega, hR1, goA_step hst rfl]), rfl, rfl⟩, by omega⟩, ⟨⟨.inl rfl, rfl, rfl, rfl⟩, ⟨⟨rfl, rfl, rfl, rfl, fun _ => rfl, fun _ _ => .inl rfl⟩, ⟨⟨rfl, rfl, rfl, rfl, fun _ => rfl, fun _ _ => .inl rfl⟩, ⟨⟨rfl, rfl, rfl, rfl, fun _ => rfl, fun _ _ => .inl rfl⟩, ⟨⟨rfl, rfl, rfl, rfl, fun _ => rfl, fun _ _ => .inl rfl⟩, ⟨⟨rfl, rfl, rfl, rfl, fun _ => rfl, fun i h => .inl (sts_row hn _ i h)⟩, ⟨⟨rfl, rfl, rfl, rfl, fun _ => rfl, fun _ _ => .inl rfl⟩, ⟨⟨rfl, rfl, rfl, rfl, fun _ => rfl, fun _ _ => .inl rfl⟩, trivial⟩⟩⟩⟩⟩⟩⟩, ⟨⟨rfl, rfl, rfl, trivial, .inl rfl, fun v => And.imp id Or.inl (⟨(hasM_put been (lastS k l) v).symm, (hasM_vb been (lastS k l) v).symm⟩)⟩, trivial⟩⟩⟩
end Go.Tr

/- Contracts of chapter 7: home. Conditions: none. -/
namespace Go.Tr
open Go Go.Proofs
set_option maxRecDepth 20000
set_option maxHeartbeats 8000000

theorem goA_stuck {stop : S2 → Bool} {step : S2 → Option (S2 × Int)} {n : Nat} {s : S2} {l : List S2} {t : Int} (h : stop s = false) (hx : step s = none) : goA stop step n s l t = none := by
  cases n with
  | zero => rfl
  | succ n =>
    unfold goA
    rw [h, hx]; rfl
theorem S79 (p : Pln) (hg : Good p) (f : Int × Bool) (s0 : S2) (hs0 : OkS p s0) : SP 79 [planA p, stA s0, ftA f] (runA (homeF p f s0)) false := by
  generalize hR : homeF p f s0 = R
  refine sound (d := 2) tok2 mixed2 Tryd.func79 (by kernel_rfl) (by kernel_rfl) ?_
  conv => whnf
  refine ⟨[.slot 9 2], [3, 4, 5, 9, 10, 11], fun st mq => ∃ (k : Nat) (s : S2) (l : List S2) (t : Int) (been : List S2), (l.length = k) ∧ (OkS p s) ∧ (been.Nodup) ∧ (∀ x ∈ been, OkS p x) ∧ (Met (homeB p f) (homeTurnF p f) s been) ∧ (been.length = k) ∧ (0 ≤ t ∧ t ≤ 10000 * (k : Int)) ∧ (∀ f', goA (homeB p f) (homeTurnF p f) (k + f') s0 [] 0 = goA (homeB p f) (homeTurnF p f) f' s l t) ∧ st = ⟨[(3, .optr 0 0 0 0), (4, .optr 1 0 0 0), (5, .optr 2 0 0 0), (9, .oslice 3 0 0 k none), (10, i64 t), (11, .omap 0)], ⟨[⟨3, 1, fun _ => planC p, 0, false, true, true⟩, ⟨2, 1, fun _ => stC s, 0, false, true, true⟩, ⟨2, 1, fun _ => [i64 f.1, vb f.2], 0, false, true, true⟩, ⟨2, k, fun i => stC (l.getD i (0, 0)), 0, false, true, false⟩], [⟨.agg [.int .i64, .int .i64], 4, hasM fun x => decide (x ∈ been), fun v => vb (hasM (fun x => decide (x ∈ been)) v), false, none, 0, .top⟩], none, 0⟩, []⟩ ∧ mq = allN p + 1 - k,
    ⟨_, _, ⟨0, s0, [], 0, [], rfl, hs0, by simp, (fun x hx => by cases hx), Met.nil _, rfl, by omega, (fun f' => by rw [Nat.zero_add]), rfl, rfl⟩, ⟨⟨.inl rfl, rfl, rfl, rfl⟩, ⟨⟨rfl, rfl, rfl, rfl, fun _ => rfl, fun _ _ => .inl rfl⟩, ⟨⟨rfl, rfl, rfl, rfl, fun _ => rfl, fun _ _ => .inl rfl⟩, ⟨⟨rfl, rfl, rfl, rfl, fun _ => rfl, fun _ _ => .inl rfl⟩, ⟨⟨rfl, rfl, rfl, rfl, fun _ => rfl, fun i h => .inl (absurd h (Nat.not_lt_zero i))⟩, trivial⟩⟩⟩⟩, ⟨⟨rfl, rfl, rfl, trivial, .inl rfl, fun v => And.imp id Or.inl (⟨hasM_nil v, congrArg (fun b => vb b) (hasM_nil v)⟩)⟩, trivial⟩⟩⟩, ?_⟩
  rintro s0 m0 ⟨k, s, l, t, been, hn, hs, hbn, hbo, hm, hk, ht, hR1, rfl, hmeas⟩
  have hN := states_le hg been hbn hbo
  have hA := allN_le hg
  have hat := hs.at
  have hRk : R = goA (homeB p f) (homeTurnF p f) (allN p - k + 1) s l t := by
    rw [← hR, ← hR1, show k + (allN p - k + 1) = allN p + 1 by omega]; rfl
  have h118 : SP 118 [planA p, stA s, ftA f] (vb (homeB p f s)) false := S118 p s f hat
  have h81 := S81 p s f hat
  have hb27 : Tryd.prog.types[27].bytes = 16 := by kernel_rfl
  cases hx : homeTurnF p f s with
  | none =>
    rw [hx] at h81
    conv => whnf
    conv => whnf
    refine .inl ⟨_, _, byX rfl (Sound1.pl (h118) rfl), ?_⟩
    conv => whnf
    conv => whnf
    refine ifB_not ?_
    conv => whnf
    conv => whnf
    refine ifB_intro (fun w1 => ?_) (fun w1 => ?_)
    · conv => whnf
      conv => whnf
      refine ⟨?_, nofun⟩
      rw [hRk.trans (goA_stop w1)]
      exact ave_tup3 ⟨rfl, hn.symm, fun _ _ => rfl⟩ rfl rfl
    · conv => whnf
      conv => whnf
      refine .inl ⟨_, _, byX rfl (Sound1.pl (h81) rfl), ?_⟩
      conv => whnf
      conv => whnf
      refine ⟨?_, nofun⟩
      exact ave_run0 (hRk.trans (goA_stuck w1 hx))
  | some x =>
    rw [hx] at h81
    have hok := home_ok hg hs hx
    conv => whnf
    conv => whnf
    refine .inl ⟨_, _, byX rfl (Sound1.pl (h118) rfl), ?_⟩
    conv => whnf
    conv => whnf
    refine ifB_not ?_
    conv => whnf
    conv => whnf
    refine ifB_intro (fun w1 => ?_) (fun w1 => ?_)
    · conv => whnf
      conv => whnf
      refine ⟨?_, nofun⟩
      rw [hRk.trans (goA_stop w1)]
      exact ave_tup3 ⟨rfl, hn.symm, fun _ _ => rfl⟩ rfl rfl
    · conv => whnf
      conv => whnf
      refine .inl ⟨_, _, byX rfl (Sound1.pl (h81) rfl), ?_⟩
      conv => whnf
      conv => whnf
      refine ifB_intro (fun w2 => ?_) (fun w2 => ?_)
      · conv => whnf
        conv => whnf
        refine ⟨?_, nofun⟩
        have hmem : s ∈ been := of_decide_eq_true w2
        exact ave_run0 (hRk.trans (goA_none (hm.again hmem _)))
      · conv => whnf
        conv => whnf
        refine ⟨inK64 (by omega) (by omega), ?_⟩
        conv => whnf
        conv => whnf
        refine .inl ?_
        conv => whnf
        conv => whnf
        refine ⟨(by show _ * (16 + 1) ≤ _; omega), ?_⟩
        have hno : s ∉ been := of_decide_eq_false w2
        conv => whnf
        conv => whnf
        refine ⟨_, _, ⟨⟨k + 1, x.1, l ++ [x.1], t + x.2, been ++ [s], by simp [hn], hok.1, (List.nodup_append.2 ⟨hbn, by simp, fun a ha b hb e => hno (by rw [← List.mem_singleton.1 hb, ← e]; exact ha)⟩), (fun y hy => (List.mem_append.1 hy).elim (hbo y) fun h => by rw [List.mem_singleton.1 h]; exact hs), (hm.next w1 hx), by simp [hk], by omega, (fun f' => by rw [show k + 1 + f' = k + (f' + 1) by omega, hR1, goA_step w1 hx]), rfl, rfl⟩, by omega⟩, ⟨⟨.inl rfl, rfl, rfl, rfl⟩, ⟨⟨rfl, rfl, rfl, rfl, fun _ => rfl, fun _ _ => .inl rfl⟩, ⟨⟨rfl, rfl, rfl, rfl, fun _ => rfl, fun _ _ => .inl rfl⟩, ⟨⟨rfl, rfl, rfl, rfl, fun _ => rfl, fun _ _ => .inl rfl⟩, ⟨⟨rfl, rfl, rfl, rfl, fun _ => rfl, fun i h => .inl (sts_row hn _ i h)⟩, trivial⟩⟩⟩⟩, ⟨⟨rfl, rfl, rfl, trivial, .inl rfl, fun v => And.imp id Or.inl (⟨(hasM_put been s v).symm, (hasM_vb been s v).symm⟩)⟩, trivial⟩⟩⟩
theorem pw_allN {p : Pln} (hg : Good p) : shlI .i64 1 (p.sig.length : Int) * (p.steps.length : Int) = (allN p : Int) := by
  rw [show shlI .i64 1 (p.sig.length : Int) = ((2 ^ p.sig.length : Nat) : Int) from pwI (by have := hg.n; omega)]
  unfold allN
  exact (Int.natCast_mul _ _).symm
theorem S28 (p : Pln) (hg : Good p) (f : Int × Bool) (s0 : S2) (hs0 : OkS p s0) (hf : OkF p f) : SP 28 [planA p, stA s0, ftA f] (runA (homeF p f s0)) false := by
  have hpn := pw_allN hg
  have hA := allN_le hg
  have h80 := S80 p (by have := hg.n; omega)
  have hlen := hg.m
  generalize hR : homeF p f s0 = R
  refine sound (d := 2) tok2 mixed2 Tryd.func28 (by kernel_rfl) (by kernel_rfl) ?_
  conv => whnf
  refine ⟨[.slot 9 2], [3, 4, 5, 9, 10], fun st mq => ∃ (k : Nat) (s : S2) (l : List S2) (t : Int), (l.length = k) ∧ (OkS p s) ∧ (k ≤ allN p + 1) ∧ (0 ≤ t ∧ t ≤ 10000 * (k : Int)) ∧ (∀ f', goA (homeB p f) (homeTurnF p f) (k + f') s0 [] 0 = goA (homeB p f) (homeTurnF p f) f' s l t) ∧ st = ⟨[(3, .optr 0 0 0 0), (4, .optr 1 0 0 0), (5, .optr 2 0 0 0), (9, .oslice 3 0 0 k none), (10, i64 t)], ⟨[⟨3, 1, fun _ => planC p, 0, false, true, true⟩, ⟨2, 1, fun _ => stC s, 0, false, true, true⟩, ⟨2, 1, fun _ => [i64 f.1, vb f.2], 0, false, true, true⟩, ⟨2, k, fun i => stC (l.getD i (0, 0)), 0, false, true, false⟩], [], none, 0⟩, []⟩ ∧ mq = allN p + 2 - k,
    ⟨_, _, ⟨0, s0, [], 0, rfl, hs0, by omega, by omega, (fun f' => by rw [Nat.zero_add]), rfl, rfl⟩, ⟨⟨.inl rfl, rfl, rfl, rfl⟩, ⟨⟨rfl, rfl, rfl, rfl, fun _ => rfl, fun _ _ => .inl rfl⟩, ⟨⟨rfl, rfl, rfl, rfl, fun _ => rfl, fun _ _ => .inl rfl⟩, ⟨⟨rfl, rfl, rfl, rfl, fun _ => rfl, fun _ _ => .inl rfl⟩, ⟨⟨rfl, rfl, rfl, rfl, fun _ => rfl, fun i h => .inl (absurd h (Nat.not_lt_zero i))⟩, trivial⟩⟩⟩⟩, trivial⟩⟩, ?_⟩
  rintro s0 m0 ⟨k, s, l, t, hn, hs, hk, ht, hR1, rfl, hmeas⟩
  have hat := hs.at
  have hRk : R = goA (homeB p f) (homeTurnF p f) (allN p + 1 - k + 1) s l t := by
    rw [← hR, ← hR1, show k + (allN p + 1 - k + 1) = allN p + 2 by omega]
    exact (goA_stable (stepH_ok hg f) (states_le hg) hs0 [] 0 (by omega)).symm
  have h31 := S31 p hg s f hs hf
  have h46 := S46 p hg s f hs hf
  have hb27 : Tryd.prog.types[27].bytes = 16 := by kernel_rfl
  cases hx : homeTurnF p f s with
  | none =>
    rw [hx] at h46
    conv => whnf
    conv => whnf
    refine .inl ⟨_, _, byX rfl (Sound1.pl (h31) rfl), ?_⟩
    conv => whnf
    conv => whnf
    refine ifB_not ?_
    conv => whnf
    conv => whnf
    refine ifB_intro (fun w1 => ?_) (fun w1 => ?_)
    · conv => whnf
      conv => whnf
      refine ⟨?_, nofun⟩
      rw [hRk.trans (goA_stop w1)]
      exact ave_tup3 ⟨rfl, hn.symm, fun _ _ => rfl⟩ rfl rfl
    · conv => whnf
      conv => whnf
      refine .inl ⟨_, _, byX rfl (Sound1.pl (h46) rfl), ?_⟩
      conv => whnf
      conv => whnf
      refine ⟨[], by kernel_rfl, ?_⟩
      conv => whnf
      conv => whnf
      refine ⟨?_, nofun⟩
      exact ave_run0 (hRk.trans (goA_stuck w1 hx))
  | some x =>
    rw [hx] at h46
    have hok := home_ok hg hs hx
    conv => whnf
    conv => whnf
    refine .inl ⟨_, _, byX rfl (Sound1.pl (h31) rfl), ?_⟩
    conv => whnf
    conv => whnf
    refine ifB_not ?_
    conv => whnf
    conv => whnf
    refine ifB_intro (fun w1 => ?_) (fun w1 => ?_)
    · conv => whnf
      conv => whnf
      refine ⟨?_, nofun⟩
      rw [hRk.trans (goA_stop w1)]
      exact ave_tup3 ⟨rfl, hn.symm, fun _ _ => rfl⟩ rfl rfl
    · conv => whnf
      conv => whnf
      refine .inl ⟨_, _, byX rfl (Sound1.pl (h46) rfl), ?_⟩
      conv => whnf
      conv => whnf
      refine ⟨[], by kernel_rfl, ?_⟩
      conv => whnf
      conv => whnf
      refine .inl ⟨_, _, byX rfl (Sound1.pl (h80) rfl), ?_⟩
      conv => whnf
      conv => whnf
      refine ⟨inK64 (by omega) (by omega), ?_⟩
      conv => whnf
      conv => whnf
      refine ifB_dec (fun w2 => ?_) (fun w2 => ?_)
      · conv => whnf
        conv => whnf
        refine ⟨?_, nofun⟩
        rw [hpn] at w2
        refine ave_run0 (hRk.trans ?_)
        rw [show allN p + 1 - k + 1 = 0 + 1 by omega, goA_step w1 hx]; rfl
      · conv => whnf
        conv => whnf
        refine ⟨[(3, 7)], by kernel_rfl, ?_⟩
        conv => whnf
        conv => whnf
        refine .inl ?_
        conv => whnf
        conv => whnf
        refine ⟨(by show _ * (16 + 1) ≤ _; omega), ?_⟩
        conv => whnf
        conv => whnf
        refine ⟨inK64 (by omega) (by omega), ?_⟩
        rw [hpn] at w2
        conv => whnf
        conv => whnf
        refine ⟨_, _, ⟨⟨k + 1, x.1, l ++ [x.1], t + x.2, by simp [hn], hok.1, by omega, by omega, (fun f' => by rw [show k + 1 + f' = k + (f' + 1) by omega, hR1, goA_step w1 hx]), rfl, rfl⟩, by omega⟩, ⟨⟨.inl rfl, rfl, rfl, rfl⟩, ⟨⟨rfl, rfl, rfl, rfl, fun _ => rfl, fun _ _ => .inl rfl⟩, ⟨⟨rfl, rfl, rfl, rfl, fun _ => rfl, fun _ _ => .inl rfl⟩, ⟨⟨rfl, rfl, rfl, rfl, fun _ => rfl, fun _ _ => .inl rfl⟩, ⟨⟨rfl, rfl, rfl, rfl, fun _ => rfl, fun i h => .inl (sts_row hn _ i h)⟩, trivial⟩⟩⟩⟩, trivial⟩⟩
end Go.Tr

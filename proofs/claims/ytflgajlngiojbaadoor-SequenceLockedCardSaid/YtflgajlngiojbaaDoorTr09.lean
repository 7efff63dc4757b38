/- Contracts of chapter 7: halls and their rules. Conditions: none. -/
import Derived.Test.YtflgajlngiojbaaDoorTr07
import Derived.Test.YtflgajlngiojbaaDoorTr08
set_option linter.unusedSectionVars false
set_option linter.unnecessarySimpa false
set_option linter.unusedVariables false
set_option linter.unusedSimpArgs false

namespace Go.Tr
open Go Go.Proofs
set_option maxRecDepth 20000
set_option maxHeartbeats 8000000

abbrev Rul := Int × Int × Int
structure Hal where
  mach : Int
  rules : List Rul
def rulC (r : Rul) : List AV := [i64 r.1, i64 r.2.1, i64 r.2.2]
def rul0 : Rul := (0, 0, 0)
def rulesA (l : List Rul) : AV := .rslice 3 l.length fun i => rulC (l.getD i rul0)
def hallC (h : Hal) : List AV := [i64 h.mach, rulesA h.rules]
def hallA (h : Hal) : AV := .agg (hallC h)

def isStepB (n : Int) : Bool := decide (0 ≤ n) && decide (n ≤ 9)
theorem isStep_dec (n : Int) : decide (0 ≤ n ∧ n ≤ 9) = isStepB n := by simp [isStepB]
theorem S84 (n : Int) : SP 84 [i64 n] (vb (isStepB n)) false := by
  have h := S78 n 0 9
  refine sound (d := 2) tok2 mixed2 Tryd.func84 (by kernel_rfl) (by kernel_rfl) ?_
  conv => whnf
  refine .inl ⟨_, _, byX rfl (Sound1.pl (h) rfl), ?_⟩
  conv => whnf
  refine ⟨?_, nofun⟩
  exact endb (isStep_dec n)
theorem S88 (n : Int) : SP 88 [i64 n] (vb (isStepB n)) false := by
  have h := S41 n 0 9
  refine sound (d := 2) tok2 mixed2 Tryd.func88 (by kernel_rfl) (by kernel_rfl) ?_
  conv => whnf
  refine .inl ⟨_, _, byX rfl (Sound1.pl (h) rfl), ?_⟩
  conv => whnf
  refine ⟨?_, nofun⟩
  exact endb (isStep_dec n)
theorem S120 (n : Int) : SP 120 [i64 n] (vb (!isStepB n)) false := by
  have h := S84 n
  refine sound (d := 2) tok2 mixed2 Tryd.func120 (by kernel_rfl) (by kernel_rfl) ?_
  conv => whnf
  refine .inl ⟨_, _, byX rfl (Sound1.pl (h) rfl), ?_⟩
  conv => whnf
  refine ⟨?_, nofun⟩
  rfl
def ruleE (r : Rul) : Int := firstOf [if isStepB r.1 && isStepB r.2.1 then 0 else 6, if decide (0 ≤ r.2.2 ∧ r.2.2 ≤ 1) then 0 else 15]
def ruleAt (h : Hal) (i : Nat) : Int := ruleE (h.rules.getD i rul0)
def headH (h : Hal) : Int := firstOf [if decide (1 ≤ h.mach ∧ h.mach ≤ 6) then 0 else 2, if decide ((h.rules.length : Int) ≤ 12) then 0 else 8]
def checkH (h : Hal) : Int × Int := if headH h ≠ 0 then (0, headH h) else scan (ruleAt h) h.rules.length 0
theorem checkH_1 {h : Hal} (h0 : ¬ headH h = 0) : checkH h = (0, headH h) := if_pos h0
theorem checkH_2 {h : Hal} (h0 : headH h = 0) {k : Nat} {e : Int} (hk : k < h.rules.length) (hf : ∀ j, j < k → ruleAt h j = 0) (he : ruleAt h k = e) (hne : ¬ e = 0) : checkH h = (↑k, e) := by
  unfold checkH
  rw [if_neg (not_not_intro h0), scan_at hk hf (by rw [he]; exact hne), he]
theorem checkH_3 {h : Hal} (h0 : headH h = 0) (hf : ∀ j, j < h.rules.length → ruleAt h j = 0) : checkH h = (0, 0) := by
  unfold checkH
  rw [if_neg (not_not_intro h0), scan_all hf]
theorem S33 (h : Hal) (hl : h.rules.length ≤ 1000) : SP 33 [hallA h] (t2 (checkH h).1 (checkH h).2) false := by
  have h78 := S78 h.mach 1 6
  refine sound (d := 2) tok2 mixed2 Tryd.func33 (by kernel_rfl) (by kernel_rfl) ?_
  conv => whnf
  refine ⟨[], by kernel_rfl, ?_⟩
  conv => whnf
  refine .inl ⟨_, _, byX rfl (Sound1.pl (h78) rfl), ?_⟩
  conv => whnf
  refine .inl ⟨_, _, byX rfl (Sound1.pl (S69 _ _) rfl), ?_⟩
  conv => whnf
  refine .inl ⟨_, _, byX rfl (Sound1.pl (S69 _ _) rfl), ?_⟩
  conv => whnf
  refine .inl ⟨_, _, byX rfl (Sound1.pl (S83_2 _ _ ⟨rfl, rfl⟩) rfl), ?_⟩
  conv => whnf
  refine ifB_bne (fun w1 => ?_) (fun w1 => ?_)
  · conv => whnf
    refine ⟨?_, nofun⟩
    exact endp (checkH_1 (h := h) w1)
  · conv => whnf
    refine ⟨[], [23, 24, 25], fun st mq => ∃ (k : Nat) (F1 : Nat → List AV), (k ≤ h.rules.length) ∧ (∀ j, j < k → ruleAt h j = 0) ∧ st = ⟨[(23, rulesA h.rules), (24, i64 h.rules.length), (25, i64 k)], ⟨[⟨2, 1, fun _ => hallC h, 0, false, true, true⟩, ⟨1, 2, F1, 0, false, true, false⟩], [], none, 0⟩, []⟩ ∧ mq = h.rules.length - k,
      ⟨_, _, ⟨0, _, by omega, inv_none, rfl, rfl⟩, ⟨⟨.inl rfl, rfl, rfl, rfl⟩, ⟨⟨rfl, rfl, rfl, rfl, fun _ => rfl, fun _ _ => .inl rfl⟩, ⟨⟨rfl, rfl, rfl, rfl, fun _ => rfl, fun _ _ => .inl rfl⟩, trivial⟩⟩, trivial⟩⟩, ?_⟩
    rintro s0 m0 ⟨k, F1, hk, hf, rfl, hmeas⟩
    by_cases hlt : k < h.rules.length
    · have h84a := S84 (h.rules.getD k rul0).1
      have h84b := S84 (h.rules.getD k rul0).2.1
      have h78k := S78 (h.rules.getD k rul0).2.2 0 1
      conv => whnf
      conv => whnf
      refine ifB_dec (fun w2 => ?_) (fun w2 => ?_)
      · conv => whnf
        conv => whnf
        refine ⟨⟨(by omega), (by omega)⟩, ?_⟩
        conv => whnf
        conv => whnf
        refine ⟨[], by kernel_rfl, ?_⟩
        conv => whnf
        conv => whnf
        refine .inl ⟨_, _, byX rfl (Sound1.pl (h84a) rfl), ?_⟩
        conv => whnf
        conv => whnf
        refine ifB_intro (fun w3 => ?_) (fun w3 => ?_)
        · conv => whnf
          conv => whnf
          refine .inl ⟨_, _, byX rfl (Sound1.pl (h84b) rfl), ?_⟩
          conv => whnf
          conv => whnf
          refine .inl ⟨_, _, byX rfl (Sound1.pl (S69 _ _) rfl), ?_⟩
          conv => whnf
          conv => whnf
          refine .inl ⟨_, _, byX rfl (Sound1.pl (h78k) rfl), ?_⟩
          conv => whnf
          conv => whnf
          refine .inl ⟨_, _, byX rfl (Sound1.pl (S69 _ _) rfl), ?_⟩
          conv => whnf
          conv => whnf
          refine .inl ⟨_, _, byX rfl (Sound1.pl (S83_2 _ _ ⟨rfl, rfl⟩) rfl), ?_⟩
          conv => whnf
          conv => whnf
          refine ifB_bne (fun w4 => ?_) (fun w4 => ?_)
          · conv => whnf
            conv => whnf
            refine ⟨?_, nofun⟩
            exact endp (checkH_2 w1 hlt hf (by show ruleE (h.rules.getD k rul0) = _; unfold ruleE; rw [show isStepB (h.rules.getD k rul0).1 = true from w3, Bool.true_and]) w4)
          · conv => whnf
            conv => whnf
            refine ⟨inK64 (by omega) (by omega), ?_⟩
            conv => whnf
            conv => whnf
            refine ⟨_, _, ⟨⟨k + 1, _, by omega, inv_next hf (by show ruleE (h.rules.getD k rul0) = _; unfold ruleE; rw [show isStepB (h.rules.getD k rul0).1 = true from w3, Bool.true_and]; exact w4), rfl, rfl⟩, by omega⟩, ⟨⟨.inl rfl, rfl, rfl, rfl⟩, ⟨⟨rfl, rfl, rfl, rfl, fun _ => rfl, fun _ _ => .inl rfl⟩, ⟨⟨rfl, rfl, rfl, rfl, fun _ => rfl, fun _ _ => .inl rfl⟩, trivial⟩⟩, trivial⟩⟩
        · conv => whnf
          conv => whnf
          refine .inl ⟨_, _, byX rfl (Sound1.pl (S69 _ _) rfl), ?_⟩
          conv => whnf
          conv => whnf
          refine .inl ⟨_, _, byX rfl (Sound1.pl (h78k) rfl), ?_⟩
          conv => whnf
          conv => whnf
          refine .inl ⟨_, _, byX rfl (Sound1.pl (S69 _ _) rfl), ?_⟩
          conv => whnf
          conv => whnf
          refine .inl ⟨_, _, byX rfl (Sound1.pl (S83_2 _ _ ⟨rfl, rfl⟩) rfl), ?_⟩
          conv => whnf
          conv => whnf
          refine ⟨?_, nofun⟩
          exact endp (checkH_2 w1 hlt hf (by show ruleE (h.rules.getD k rul0) = _; unfold ruleE; rw [show isStepB (h.rules.getD k rul0).1 = false from w3]; rfl) (by show ¬ (6 : Int) = 0; decide))
      · (exfalso; omega)
    · have e : k = h.rules.length := by omega
      subst e
      conv => whnf
      conv => whnf
      refine ifB_dec (fun w2 => ?_) (fun w2 => ?_)
      · (exfalso; omega)
      · conv => whnf
        conv => whnf
        refine ⟨?_, nofun⟩
        exact endp (checkH_3 w1 hf)

theorem mach_form (h : Hal) : headH h = if 1 ≤ h.mach ∧ h.mach ≤ 6 then (if h.rules.length > 12 then 8 else 0) else 2 := by
  unfold headH
  rw [first2]
  by_cases h1 : 1 ≤ h.mach ∧ h.mach ≤ 6
  · rw [if_pos h1, decide_eq_true h1]
    by_cases h2 : h.rules.length > 12
    · rw [if_pos h2, decide_eq_false (by omega)]; rfl
    · rw [if_neg h2, decide_eq_true (by omega)]; rfl
  · rw [if_neg h1, decide_eq_false h1]; rfl
theorem rule_form (r : Rul) : ruleE r = if isStepB r.1 && isStepB r.2.1 then (if 0 ≤ r.2.2 ∧ r.2.2 ≤ 1 then 0 else 15) else 6 := by
  unfold ruleE
  rw [first2]
  cases isStepB r.1 && isStepB r.2.1 with
  | true =>
    by_cases h : 0 ≤ r.2.2 ∧ r.2.2 ≤ 1
    · rw [decide_eq_true h, if_pos h]; rfl
    · rw [decide_eq_false h, if_neg h]; rfl
  | false => rfl
theorem S38 (h : Hal) (hl : h.rules.length ≤ 1000) : SP 38 [hallA h] (t2 (checkH h).1 (checkH h).2) false := by
  have h41 := S41 h.mach 1 6
  have hm := mach_form h
  refine sound (d := 2) tok2 mixed2 Tryd.func38 (by kernel_rfl) (by kernel_rfl) ?_
  conv => whnf
  refine .inl ⟨_, _, byX rfl (Sound1.pl (h41) rfl), ?_⟩
  conv => whnf
  refine ifB_not ?_
  conv => whnf
  refine ifB_dec (fun w1 => ?_) (fun w1 => ?_)
  · conv => whnf
    refine ifB_dec (fun w2 => ?_) (fun w2 => ?_)
    · conv => whnf
      refine ⟨?_, nofun⟩
      have h8 : headH h = 8 := by rw [hm, if_pos w1, if_pos (by omega)]
      exact endp ((checkH_1 (by rw [h8]; decide)).trans (by rw [h8]))
    · have h0 : headH h = 0 := by rw [hm, if_pos w1, if_neg (by omega)]
      conv => whnf
      refine ⟨[], [1, 4], fun st mq => ∃ (k : Nat), (k ≤ h.rules.length) ∧ (∀ j, j < k → ruleAt h j = 0) ∧ st = ⟨[(1, .optr 0 0 0 0), (4, i64 k)], ⟨[⟨2, 1, fun _ => hallC h, 0, false, true, true⟩], [], none, 0⟩, []⟩ ∧ mq = h.rules.length - k,
        ⟨_, _, ⟨0, by omega, inv_none, rfl, rfl⟩, ⟨⟨.inl rfl, rfl, rfl, rfl⟩, ⟨⟨rfl, rfl, rfl, rfl, fun _ => rfl, fun _ _ => .inl rfl⟩, trivial⟩, trivial⟩⟩, ?_⟩
      rintro s0 m0 ⟨k, hk, hf, rfl, hmeas⟩
      by_cases hlt : k < h.rules.length
      · have h88a := S88 (h.rules.getD k rul0).1
        have h88b := S88 (h.rules.getD k rul0).2.1
        have h41k := S41 (h.rules.getD k rul0).2.2 0 1
        have hr : ruleAt h k = _ := rule_form (h.rules.getD k rul0)
        conv => whnf
        conv => whnf
        refine ifB_dec (fun w3 => ?_) (fun w3 => ?_)
        · conv => whnf
          conv => whnf
          refine ⟨⟨(by omega), (by omega)⟩, ?_⟩
          conv => whnf
          conv => whnf
          refine .inl ⟨_, _, byX rfl (Sound1.pl (h88a) rfl), ?_⟩
          conv => whnf
          conv => whnf
          refine ifB_not ?_
          conv => whnf
          conv => whnf
          refine ifB_intro (fun w4 => ?_) (fun w4 => ?_)
          · conv => whnf
            conv => whnf
            refine .inl ⟨_, _, byX rfl (Sound1.pl (h88b) rfl), ?_⟩
            conv => whnf
            conv => whnf
            refine ifB_not ?_
            conv => whnf
            conv => whnf
            refine ifB_intro (fun w5 => ?_) (fun w5 => ?_)
            · conv => whnf
              conv => whnf
              refine .inl ⟨_, _, byX rfl (Sound1.pl (h41k) rfl), ?_⟩
              conv => whnf
              conv => whnf
              refine ifB_not ?_
              conv => whnf
              conv => whnf
              refine ifB_dec (fun w6 => ?_) (fun w6 => ?_)
              · conv => whnf
                conv => whnf
                refine ⟨inK64 (by omega) (by omega), ?_⟩
                conv => whnf
                conv => whnf
                refine ⟨_, _, ⟨⟨k + 1, by omega, inv_next hf (hr.trans (by rw [show isStepB (h.rules.getD k rul0).1 = true from w4, show isStepB (h.rules.getD k rul0).2.1 = true from w5, if_pos w6]; rfl)), rfl, rfl⟩, by omega⟩, ⟨⟨.inl rfl, rfl, rfl, rfl⟩, ⟨⟨rfl, rfl, rfl, rfl, fun _ => rfl, fun _ _ => .inl rfl⟩, trivial⟩, trivial⟩⟩
              · conv => whnf
                conv => whnf
                refine ⟨?_, nofun⟩
                exact endp (checkH_2 h0 hlt hf (hr.trans (by rw [show isStepB (h.rules.getD k rul0).1 = true from w4, show isStepB (h.rules.getD k rul0).2.1 = true from w5, if_neg w6]; rfl)) (by decide))
            · conv => whnf
              conv => whnf
              refine ⟨?_, nofun⟩
              exact endp (checkH_2 h0 hlt hf (hr.trans (by rw [show isStepB (h.rules.getD k rul0).1 = true from w4, show isStepB (h.rules.getD k rul0).2.1 = false from w5]; rfl)) (by decide))
          · conv => whnf
            conv => whnf
            refine ⟨?_, nofun⟩
            exact endp (checkH_2 h0 hlt hf (hr.trans (by rw [show isStepB (h.rules.getD k rul0).1 = false from w4]; rfl)) (by decide))
        · (exfalso; omega)
      · have e : k = h.rules.length := by omega
        subst e
        conv => whnf
        conv => whnf
        refine ifB_dec (fun w3 => ?_) (fun w3 => ?_)
        · (exfalso; omega)
        · conv => whnf
          conv => whnf
          refine ⟨?_, nofun⟩
          exact endp (checkH_3 h0 hf)
  · conv => whnf
    refine ⟨?_, nofun⟩
    have h2 : headH h = 2 := by rw [hm, if_neg w1]
    exact endp ((checkH_1 (by rw [h2]; decide)).trans (by rw [h2]))
theorem S43 (h : Hal) (hl : h.rules.length ≤ 1000) : SP 43 [hallA h] (i64 (checkH h).2) false := by
  have h38 := S38 h hl
  refine sound (d := 2) tok2 mixed2 Tryd.func43 (by kernel_rfl) (by kernel_rfl) ?_
  conv => whnf
  refine .inl ⟨_, _, byX rfl (Sound1.pl (h38) rfl), ?_⟩
  conv => whnf
  refine ⟨?_, nofun⟩
  rfl
def stepsH (h : Hal) (l : List Int) : Int := if ¬ (l.length : Int) = h.mach then 10 else if l.all isStepB then 0 else 6
def openH (h : Hal) (l : List Int) : Int := if (checkH h).2 = 0 then stepsH h l else (checkH h).2
theorem first3 (a b c : Int) : firstOf [a, b, c] = if a ≠ 0 then a else if b ≠ 0 then b else c := by
  unfold firstOf
  rw [first2]
  by_cases h : a = 0
  · rw [if_pos h, if_neg (not_not_intro h)]
  · rw [if_neg h, if_pos h]
theorem openH_form (h : Hal) (l : List Int) : firstOf [(checkH h).2, if decide ((l.length : Int) = h.mach) then 0 else 10, if l.all isStepB then 0 else 6] = openH h l := by
  rw [first3]
  unfold openH stepsH
  by_cases h0 : (checkH h).2 = 0
  · rw [if_neg (not_not_intro h0), if_pos h0]
    by_cases h1 : (l.length : Int) = h.mach
    · rw [decide_eq_true h1, if_neg (not_not_intro h1)]; rfl
    · rw [decide_eq_false h1, if_pos h1]; rfl
  · rw [if_pos h0, if_neg h0]
theorem S85 (h : Hal) (hl : h.rules.length ≤ 1000) (l : List Int) (hll : l.length ≤ 9223372036854775807) : SP 85 [hallA h, ints l] (i64 (openH h l)) false := by
  have h33 := S33 h hl
  have h76 := S76n l hll 120 _ S120
  refine sound (d := 2) tok2 mixed2 Tryd.func85 (by kernel_rfl) (by kernel_rfl) ?_
  conv => whnf
  refine .inl ⟨_, _, byX rfl (Sound1.pl (h33) rfl), ?_⟩
  conv => whnf
  refine .inl ⟨_, _, byX rfl (Sound1.pl (h76) rfl), ?_⟩
  conv => whnf
  refine .inl ⟨_, _, byX rfl (Sound1.pl (S69 _ _) rfl), ?_⟩
  conv => whnf
  refine .inl ⟨_, _, byX rfl (Sound1.pl (S69 _ _) rfl), ?_⟩
  conv => whnf
  refine .inl ⟨_, _, byX rfl (Sound1.pl (S83_3 _ _ _ ⟨rfl, rfl, rfl⟩) rfl), ?_⟩
  conv => whnf
  refine ⟨?_, nofun⟩
  refine endi (Eq.trans ?_ (openH_form h l))
  rw [any_not]; rfl
theorem S39 (h : Hal) (l : List Int) (hll : l.length ≤ 9223372036854775806) : SP 39 [hallA h, ints l] (i64 (stepsH h l)) false := by
  refine sound (d := 2) tok2 mixed2 Tryd.func39 (by kernel_rfl) (by kernel_rfl) ?_
  conv => whnf
  refine ifB_bne (fun w1 => ?_) (fun w1 => ?_)
  · conv => whnf
    refine ⟨?_, nofun⟩
    exact endi (if_pos w1).symm
  · conv => whnf
    refine ⟨[], [1, 5], fun st mq => ∃ (k : Nat), (k ≤ l.length) ∧ ((l.drop k).all isStepB = l.all isStepB) ∧ st = ⟨[(1, ints l), (5, i64 k)], ⟨[⟨2, 1, fun _ => hallC h, 0, false, true, true⟩], [], none, 0⟩, []⟩ ∧ mq = l.length - k,
      ⟨_, _, ⟨0, by omega, rfl, rfl, rfl⟩, ⟨⟨.inl rfl, rfl, rfl, rfl⟩, ⟨⟨rfl, rfl, rfl, rfl, fun _ => rfl, fun _ _ => .inl rfl⟩, trivial⟩, trivial⟩⟩, ?_⟩
    rintro s0 m0 ⟨k, hk, hf, rfl, hmeas⟩
    by_cases hlt : k < l.length
    · have h88 := S88 (l.getD k 0)
      have hd : (l.drop k).all isStepB = (isStepB (l.getD k 0) && (l.drop (k + 1)).all isStepB) := by
        rw [List.drop_eq_getElem_cons hlt, List.all_cons]; simp [List.getD, hlt]
      conv => whnf
      conv => whnf
      refine ifB_dec (fun w2 => ?_) (fun w2 => ?_)
      · conv => whnf
        conv => whnf
        refine ⟨⟨(by omega), (by omega)⟩, ?_⟩
        conv => whnf
        conv => whnf
        refine .inl ⟨_, _, byX rfl (Sound1.pl (h88) rfl), ?_⟩
        conv => whnf
        conv => whnf
        refine ifB_not ?_
        conv => whnf
        conv => whnf
        refine ifB_intro (fun w3 => ?_) (fun w3 => ?_)
        · conv => whnf
          conv => whnf
          refine ⟨inK64 (by omega) (by omega), ?_⟩
          rw [show isStepB (l.getD k 0) = true from w3, Bool.true_and] at hd
          conv => whnf
          conv => whnf
          refine ⟨_, _, ⟨⟨k + 1, by omega, hd.symm.trans hf, rfl, rfl⟩, by omega⟩, ⟨⟨.inl rfl, rfl, rfl, rfl⟩, ⟨⟨rfl, rfl, rfl, rfl, fun _ => rfl, fun _ _ => .inl rfl⟩, trivial⟩, trivial⟩⟩
        · conv => whnf
          conv => whnf
          refine ⟨?_, nofun⟩
          rw [show isStepB (l.getD k 0) = false from w3, Bool.false_and, hf] at hd
          refine endi (b := stepsH h l) ?_
          unfold stepsH
          rw [if_neg (not_not_intro w1), hd]; rfl
      · (exfalso; omega)
    · have e : k = l.length := by omega
      subst e
      conv => whnf
      conv => whnf
      refine ifB_dec (fun w2 => ?_) (fun w2 => ?_)
      · (exfalso; omega)
      · conv => whnf
        conv => whnf
        refine ⟨?_, nofun⟩
        rw [List.drop_length] at hf
        refine endi (b := stepsH h l) ?_
        unfold stepsH
        rw [if_neg (not_not_intro w1), ← hf]; rfl
end Go.Tr

/- Contracts of chapter 7: which rules are broken. Conditions: none. -/
namespace Go.Tr
open Go Go.Proofs
set_option maxRecDepth 20000
set_option maxHeartbeats 8000000

/-- The first of some numbers of which something holds. -/
def firstN (P : Nat → Bool) : Nat → Nat → Option Nat
  | 0, _ => none
  | n + 1, i => if P i then some i else firstN P n (i + 1)
theorem firstN_at {P : Nat → Bool} {n k : Nat} (hk : k < n) (h : ∀ j, j < k → P j = false) (hp : P k = true) : firstN P n 0 = some k := by
  have key : ∀ (n i : Nat), i ≤ k → k < i + n → firstN P n i = some k := by
    intro n
    induction n with
    | zero => intro i h1 h2; omega
    | succ n ih =>
      intro i h1 h2
      unfold firstN
      by_cases hi : i = k
      · subst hi; rw [if_pos hp]
      · rw [if_neg (by rw [h i (by omega)]; nofun), ih (i + 1) (by omega) (by omega)]
  exact key n 0 (by omega) (by omega)
theorem firstN_none {P : Nat → Bool} {n : Nat} (h : ∀ j, j < n → P j = false) : firstN P n 0 = none := by
  have key : ∀ (m i : Nat), i + m = n → firstN P m i = none := by
    intro m
    induction m with
    | zero => intro i _; rfl
    | succ m ih => intro i hi; unfold firstN; rw [if_neg (by rw [h i (by omega)]; nofun), ih (i + 1) (by omega)]
  exact key n 0 (by omega)
theorem inv_nextB {f : Nat → Bool} {k : Nat} (h : ∀ j, j < k → f j = false) (hk : f k = false) : ∀ j, j < k + 1 → f j = false := fun j hj => by
  rcases Nat.lt_succ_iff_lt_or_eq.1 hj with h1 | rfl
  · exact h j h1
  · exact hk
theorem inv_noneB {f : Nat → Bool} : ∀ j, j < 0 → f j = false := fun j hj => absurd hj (Nat.not_lt_zero j)

/-- Is another machine in a step? -/
def otherB (l : List Int) (m : Nat) (x : Int) : Bool := hasI (l.eraseIdx m) x
/-- Does a rule not hold for a machine? -/
def condB (h : Hal) (l : List Int) (m k : Nat) : Bool :=
  decide ((h.rules.getD k rul0).1 = l.getD m 0) && (otherB l m (h.rules.getD k rul0).2.1 != decide ((h.rules.getD k rul0).2.2 = 1))
def rowB (h : Hal) (l : List Int) (m : Nat) : Option Nat := firstN (condB h l m) h.rules.length 0
def brokenF (h : Hal) (l : List Int) : Option (Nat × Nat) := match firstN (fun m => (rowB h l m).isSome) l.length 0 with | none => none | some m => (rowB h l m).map fun k => (m, k)
def brA : Option (Nat × Nat) → AV
  | none => .tuple [stA (0, 0), vb false]
  | some x => .tuple [stA (x.1, x.2), vb true]
theorem broken_at {h : Hal} {l : List Int} {m k : Nat} (hm : m < l.length) (hk : k < h.rules.length) (h1 : ∀ j, j < m → (rowB h l j).isSome = false) (h2 : ∀ j, j < k → condB h l m j = false) (h3 : condB h l m k = true) : brokenF h l = some (m, k) := by
  have hr : rowB h l m = some k := firstN_at hk h2 h3
  unfold brokenF
  rw [firstN_at hm h1 (by rw [hr]; rfl)]
  show (rowB h l m).map _ = _
  rw [hr]; rfl
theorem broken_none {h : Hal} {l : List Int} (h1 : ∀ j, j < l.length → (rowB h l j).isSome = false) : brokenF h l = none := by
  unfold brokenF
  rw [firstN_none h1]
theorem S94n (l : List Int) (hl : l.length ≤ 1000000) (x : Int) {n : Nat} {f : Nat → List AV} (hn : n = l.length) (hf : ∀ i, i < n → f i = [i64 (l.getD i 0)]) : SP 94 [.rslice 1 n f, i64 x] (vb (hasI l x)) false := by
  refine (S94 l (by omega) x).argsD rfl fun i y z hy hz => ?_
  match i, hy, hz with
  | 0, hy, hz => cases hy; cases hz; exact .inr ⟨1, AVF_rows hn hf 0⟩
  | 1, hy, hz => cases hy; cases hz; exact .inl rfl
theorem ave_br (o : Option (Nat × Nat)) {m k : Nat} (h : o = some (m, k)) : AVE 5 (.tuple [.agg [i64 m, i64 k], vb true]) (brA o) := by
  rw [h]
  exact ave_tup2 (ave_agg2 (k := 3) rfl rfl) rfl
theorem ave_br0 (o : Option (Nat × Nat)) (h : o = none) : AVE 5 (.tuple [.agg [i64 0, i64 0], vb false]) (brA o) := by
  rw [h]
  exact ave_tup2 (ave_agg2 (k := 3) rfl rfl) rfl
theorem getD_erase (l : List Int) (m i : Nat) : (l.eraseIdx m).getD i 0 = if i < m then l.getD i 0 else l.getD (i + 1) 0 := by
  rw [List.getD_eq_getElem?_getD, List.getElem?_eraseIdx]
  split <;> rw [List.getD_eq_getElem?_getD]
theorem del_row (l : List Int) (m : Nat) (_ : m < l.length) (i : Nat) (hi : i < ((m : Int) - 0).toNat + ((l.length : Int) - ((m : Int) + 1)).toNat) {Z W : List AV} :
    (if 0 + Int.toNat 0 + (((((m : Int) - 0).toNat + ((l.length : Int) - ((m : Int) + 1)).toNat : Nat) : Int)).toNat ≤ i ∧ i < 0 + Int.toNat 0 + (((((m : Int) - 0).toNat + ((l.length : Int) - ((m : Int) + 1)).toNat : Nat) : Int)).toNat + ((l.length : Int) - ((((m : Int) - 0).toNat + ((l.length : Int) - ((m : Int) + 1)).toNat : Nat) : Int)).toNat then Z
      else if i < 0 + Int.toNat 0 + ((m : Int) - 0).toNat then [i64 (l.getD i 0)] else if i < 0 + Int.toNat 0 + ((m : Int) - 0).toNat + ((l.length : Int) - ((m : Int) + 1)).toNat then shiftF (0 + ((m : Int) + 1).toNat) (fun i => [i64 (l.getD i 0)]) (i - (0 + Int.toNat 0 + ((m : Int) - 0).toNat)) else W) = [i64 ((l.eraseIdx m).getD i 0)] := by
  have e0 : Int.toNat 0 = 0 := rfl
  rw [if_neg (by omega), getD_erase, shiftF_eq]
  by_cases h : i < m
  · rw [if_pos (by omega), if_pos h]
  · rw [if_neg (by omega), if_pos (by omega), if_neg h]
    show [i64 (l.getD (0 + ((m : Int) + 1).toNat + (i - (0 + Int.toNat 0 + ((m : Int) - 0).toNat))) 0)] = _
    rw [show 0 + ((m : Int) + 1).toNat + (i - (0 + Int.toNat 0 + ((m : Int) - 0).toNat)) = i + 1 by omega]
theorem cond_ne {h : Hal} {l : List Int} {m k : Nat} (w : ¬ (h.rules.getD k rul0).1 = l.getD m 0) : condB h l m k = false := by
  unfold condB
  rw [decide_eq_false w]; rfl
theorem cond_no {h : Hal} {l : List Int} {m k : Nat} (w : (h.rules.getD k rul0).1 = l.getD m 0) (w2 : otherB l m (h.rules.getD k rul0).2.1 = ((h.rules.getD k rul0).2.2 == 1)) : condB h l m k = false := by
  unfold condB
  rw [decide_eq_true w, w2]
  show (true && (((h.rules.getD k rul0).2.2 == 1) != ((h.rules.getD k rul0).2.2 == 1))) = false
  simp
theorem cond_yes {h : Hal} {l : List Int} {m k : Nat} (w : (h.rules.getD k rul0).1 = l.getD m 0) (w2 : ¬ otherB l m (h.rules.getD k rul0).2.1 = ((h.rules.getD k rul0).2.2 == 1)) : condB h l m k = true := by
  unfold condB
  rw [decide_eq_true w, Bool.true_and]
  exact bne_iff_ne.2 w2
theorem S86 (h : Hal) (hr : h.rules.length ≤ 1000) (l : List Int) (hl : l.length ≤ 1000) : SP 86 [hallA h, ints l] (brA (brokenF h l)) false := by
  refine sound (d := 2) tok2 mixed2 Tryd.func86 (by kernel_rfl) (by kernel_rfl) ?_
  conv => whnf
  refine ⟨[], [1, 2, 4, 11, 12, 13], fun st mq => ∃ (m : Nat), (m ≤ l.length) ∧ (∀ j, j < m → (rowB h l j).isSome = false) ∧ st = ⟨[(1, ints l), (2, .optr 0 0 0 0), (4, .optr 1 0 0 0), (11, ints l), (12, i64 l.length), (13, i64 m)], ⟨[⟨2, 1, fun _ => hallC h, 0, false, true, true⟩, ⟨2, 1, fun _ => [i64 0, i64 0], 0, false, true, true⟩], [], none, 0⟩, []⟩ ∧ mq = l.length - m,
    ⟨_, _, ⟨0, by omega, inv_noneB, rfl, rfl⟩, ⟨⟨.inl rfl, rfl, rfl, rfl⟩, ⟨⟨rfl, rfl, rfl, rfl, fun _ => rfl, fun _ _ => .inl rfl⟩, ⟨⟨rfl, rfl, rfl, rfl, fun _ => rfl, fun _ _ => .inl rfl⟩, trivial⟩⟩, trivial⟩⟩, ?_⟩
  rintro s0 m0 ⟨m, hm, h1, rfl, hmeas⟩
  by_cases hlt : m < l.length
  · conv => whnf
    conv => whnf
    refine ifB_dec (fun w1 => ?_) (fun w1 => ?_)
    · conv => whnf
      conv => whnf
      refine ⟨⟨(by omega), (by omega)⟩, ?_⟩
      conv => whnf
      conv => whnf
      refine ⟨[], [1, 2, 4, 6, 7, 11, 12, 13, 19, 20, 21], fun st mq => ∃ (k : Nat), (k ≤ h.rules.length) ∧ (∀ j, j < k → condB h l m j = false) ∧ st = ⟨[(1, ints l), (2, .optr 0 0 0 0), (4, .optr 1 0 0 0), (6, i64 m), (7, i64 (l.getD m 0)), (11, ints l), (12, i64 l.length), (13, i64 m), (19, rulesA h.rules), (20, i64 h.rules.length), (21, i64 k)], ⟨[⟨2, 1, fun _ => hallC h, 0, false, true, true⟩, ⟨2, 1, fun _ => [i64 0, i64 0], 0, false, true, true⟩], [], none, 0⟩, []⟩ ∧ mq = h.rules.length - k,
        ⟨_, _, ⟨0, by omega, inv_noneB, rfl, rfl⟩, ⟨⟨.inl rfl, rfl, rfl, rfl⟩, ⟨⟨rfl, rfl, rfl, rfl, fun _ => rfl, fun _ _ => .inl rfl⟩, ⟨⟨rfl, rfl, rfl, rfl, fun _ => rfl, fun _ _ => .inl rfl⟩, trivial⟩⟩, trivial⟩⟩, ?_⟩
      rintro s0 m0 ⟨k, hk, h2, rfl, hmeas⟩
      by_cases hltk : k < h.rules.length
      · have h94 := fun x => @S94n (l.eraseIdx m) (by rw [List.length_eraseIdx]; split <;> omega) x
        conv => whnf
        conv => whnf
        conv => whnf
        refine ifB_dec (fun w2 => ?_) (fun w2 => ?_)
        · conv => whnf
          conv => whnf
          conv => whnf
          refine ⟨⟨(by omega), (by omega)⟩, ?_⟩
          conv => whnf
          conv => whnf
          conv => whnf
          refine .inl ⟨_, _, byX rfl (S87 _ (by omega)), ?_⟩
          conv => whnf
          conv => whnf
          conv => whnf
          refine ⟨inK64 (by omega) (by omega), ?_⟩
          conv => whnf
          conv => whnf
          conv => whnf
          refine .inr ?_
          conv => whnf
          conv => whnf
          conv => whnf
          refine ⟨⟨(by first | rfl | assumption), ⟨(by omega), ⟨(by omega), ⟨(by omega), (by omega)⟩⟩⟩⟩, ?_⟩
          conv => whnf
          conv => whnf
          conv => whnf
          refine ifB_beq (fun w3 => ?_) (fun w3 => ?_)
          · (exfalso; omega)
          · conv => whnf
            conv => whnf
            conv => whnf
            refine ⟨[], by kernel_rfl, ?_⟩
            conv => whnf
            conv => whnf
            conv => whnf
            refine ⟨?_, ?_⟩
            · exact ⟨Int.le_refl 0, by omega, by simp; omega⟩
            · conv => whnf
              conv => whnf
              conv => whnf
              refine ⟨?_, ?_⟩
              · exact ⟨by omega, by omega, by simp⟩
              · conv => whnf
                conv => whnf
                conv => whnf
                refine .inr ?_
                conv => whnf
                conv => whnf
                conv => whnf
                refine ⟨?_, ?_⟩
                · simp; omega
                · conv => whnf
                  conv => whnf
                  conv => whnf
                  refine ⟨?_, ?_⟩
                  · exact ⟨by omega, by simp; omega, by simp⟩
                  · conv => whnf
                    conv => whnf
                    conv => whnf
                    refine ⟨[], by kernel_rfl, ?_⟩
                    conv => whnf
                    conv => whnf
                    conv => whnf
                    refine ifB_beq (fun w4 => ?_) (fun w4 => ?_)
                    · conv => whnf
                      conv => whnf
                      conv => whnf
                      refine .inl ⟨_, _, byX rfl (Sound1.pl (h94 _ ?_ ?_) rfl), ?_⟩
                      · rw [List.length_eraseIdx, if_pos hlt]; omega
                      · exact fun i hi => del_row l m hlt i hi
                      · conv => whnf
                        conv => whnf
                        conv => whnf
                        refine ifB_not ?_
                        conv => whnf
                        conv => whnf
                        conv => whnf
                        refine ifB_beqB (fun w5 => ?_) (fun w5 => ?_)
                        · conv => whnf
                          conv => whnf
                          conv => whnf
                          refine ⟨inK64 (by omega) (by omega), ?_⟩
                          conv => whnf
                          conv => whnf
                          conv => whnf
                          refine ⟨_, _, ⟨⟨k + 1, by omega, inv_nextB h2 (cond_no w4 w5), rfl, rfl⟩, by omega⟩, ⟨⟨.inl rfl, rfl, rfl, rfl⟩, ⟨⟨rfl, rfl, rfl, rfl, fun _ => rfl, fun _ _ => .inl rfl⟩, ⟨⟨rfl, rfl, rfl, rfl, fun _ => rfl, fun _ _ => .inl rfl⟩, trivial⟩⟩, trivial⟩⟩
                        · conv => whnf
                          conv => whnf
                          conv => whnf
                          refine ⟨?_, nofun⟩
                          exact ave_br _ (broken_at hlt hltk h1 h2 (cond_yes w4 w5))
                    · conv => whnf
                      conv => whnf
                      conv => whnf
                      refine ⟨inK64 (by omega) (by omega), ?_⟩
                      conv => whnf
                      conv => whnf
                      conv => whnf
                      refine ⟨_, _, ⟨⟨k + 1, by omega, inv_nextB h2 (cond_ne w4), rfl, rfl⟩, by omega⟩, ⟨⟨.inl rfl, rfl, rfl, rfl⟩, ⟨⟨rfl, rfl, rfl, rfl, fun _ => rfl, fun _ _ => .inl rfl⟩, ⟨⟨rfl, rfl, rfl, rfl, fun _ => rfl, fun _ _ => .inl rfl⟩, trivial⟩⟩, trivial⟩⟩
        · (exfalso; omega)
      · have hrow : (rowB h l m).isSome = false := by
          have e : k = h.rules.length := by omega
          subst e
          unfold rowB
          rw [firstN_none h2]; rfl
        conv => whnf
        conv => whnf
        conv => whnf
        refine ifB_dec (fun w2 => ?_) (fun w2 => ?_)
        · (exfalso; omega)
        · conv => whnf
          conv => whnf
          conv => whnf
          refine ⟨inK64 (by omega) (by omega), ?_⟩
          conv => whnf
          conv => whnf
          conv => whnf
          refine ⟨_, _, ⟨⟨m + 1, by omega, inv_nextB h1 hrow, rfl, rfl⟩, by omega⟩, ⟨⟨.inl rfl, rfl, rfl, rfl⟩, ⟨⟨rfl, rfl, rfl, rfl, fun _ => rfl, fun _ _ => .inl rfl⟩, ⟨⟨rfl, rfl, rfl, rfl, fun _ => rfl, fun _ _ => .inl rfl⟩, trivial⟩⟩, trivial⟩⟩
    · (exfalso; omega)
  · conv => whnf
    conv => whnf
    refine ifB_dec (fun w1 => ?_) (fun w1 => ?_)
    · (exfalso; omega)
    · conv => whnf
      conv => whnf
      refine ⟨?_, nofun⟩
      exact ave_br0 _ (broken_none (by have e : m = l.length := by omega
                                       subst e; exact h1))

theorem other_true {l : List Int} {m i : Nat} {x : Int} (hi : i < l.length) (hne : i ≠ m) (he : l.getD i 0 = x) : otherB l m x = true := by
  unfold otherB
  rw [hasI_mem, List.mem_eraseIdx_iff_getElem]
  exact ⟨i, hi, hne, by simpa [List.getD_eq_getElem?_getD, hi] using he⟩
theorem other_false {l : List Int} {m : Nat} {x : Int} (h : ∀ i, i < l.length → i ≠ m → ¬ l.getD i 0 = x) : otherB l m x = false := by
  unfold otherB
  cases ho : hasI (l.eraseIdx m) x with
  | false => rfl
  | true =>
    rw [hasI_mem, List.mem_eraseIdx_iff_getElem] at ho
    obtain ⟨i, hi, hne, he⟩ := ho
    exact absurd (by simpa [List.getD_eq_getElem?_getD, hi] using he) (h i hi hne)
theorem S89 (l : List Int) (hl : l.length ≤ 1000) (m : Nat) (x : Int) : SP 89 [ints l, i64 m, i64 x] (vb (otherB l m x)) false := by
  refine sound (d := 2) tok2 mixed2 Tryd.func89 (by kernel_rfl) (by kernel_rfl) ?_
  conv => whnf
  refine ⟨[], [0, 1, 2, 7], fun st mq => ∃ (k : Nat), (k ≤ l.length) ∧ (∀ i, i < k → i ≠ m → ¬ l.getD i 0 = x) ∧ st = ⟨[(0, ints l), (1, i64 m), (2, i64 x), (7, i64 k)], ⟨[], [], none, 0⟩, []⟩ ∧ mq = l.length - k,
    ⟨_, _, ⟨0, by omega, fun i h => absurd h (Nat.not_lt_zero i), rfl, rfl⟩, ⟨⟨.inl rfl, rfl, rfl, rfl⟩, trivial, trivial⟩⟩, ?_⟩
  rintro s0 m0 ⟨k, hk, hf, rfl, hmeas⟩
  by_cases hlt : k < l.length
  · conv => whnf
    conv => whnf
    refine ifB_dec (fun w1 => ?_) (fun w1 => ?_)
    · conv => whnf
      conv => whnf
      refine ifB_bne (fun w2 => ?_) (fun w2 => ?_)
      · conv => whnf
        conv => whnf
        refine ⟨⟨(by omega), (by omega)⟩, ?_⟩
        conv => whnf
        conv => whnf
        refine ifB_beq (fun w3 => ?_) (fun w3 => ?_)
        · conv => whnf
          conv => whnf
          refine ⟨?_, nofun⟩
          exact endb (other_true hlt (by omega) w3).symm
        · conv => whnf
          conv => whnf
          refine ⟨inK64 (by omega) (by omega), ?_⟩
          conv => whnf
          conv => whnf
          refine ⟨_, _, ⟨⟨k + 1, by omega, fun i hi hne => (by rcases Nat.lt_succ_iff_lt_or_eq.1 hi with h | h; exact hf i h hne; rw [h]; exact w3), rfl, rfl⟩, by omega⟩, ⟨⟨.inl rfl, rfl, rfl, rfl⟩, trivial, trivial⟩⟩
      · conv => whnf
        conv => whnf
        refine ⟨inK64 (by omega) (by omega), ?_⟩
        conv => whnf
        conv => whnf
        refine ⟨_, _, ⟨⟨k + 1, by omega, fun i hi hne => (by rcases Nat.lt_succ_iff_lt_or_eq.1 hi with h | h; exact hf i h hne; omega), rfl, rfl⟩, by omega⟩, ⟨⟨.inl rfl, rfl, rfl, rfl⟩, trivial, trivial⟩⟩
    · (exfalso; omega)
  · conv => whnf
    conv => whnf
    refine ifB_dec (fun w1 => ?_) (fun w1 => ?_)
    · (exfalso; omega)
    · conv => whnf
      conv => whnf
      refine ⟨?_, nofun⟩
      have e : k = l.length := by omega
      subst e
      exact endb (other_false hf).symm
theorem S40 (h : Hal) (hr : h.rules.length ≤ 1000) (l : List Int) (hl : l.length ≤ 1000) : SP 40 [hallA h, ints l] (brA (brokenF h l)) false := by
  refine sound (d := 2) tok2 mixed2 Tryd.func40 (by kernel_rfl) (by kernel_rfl) ?_
  conv => whnf
  refine ⟨[], [1, 2, 4, 6], fun st mq => ∃ (m : Nat), (m ≤ l.length) ∧ (∀ j, j < m → (rowB h l j).isSome = false) ∧ st = ⟨[(1, ints l), (2, .optr 0 0 0 0), (4, .optr 1 0 0 0), (6, i64 m)], ⟨[⟨2, 1, fun _ => hallC h, 0, false, true, true⟩, ⟨2, 1, fun _ => [i64 0, i64 0], 0, false, true, true⟩], [], none, 0⟩, []⟩ ∧ mq = l.length - m,
    ⟨_, _, ⟨0, by omega, inv_noneB, rfl, rfl⟩, ⟨⟨.inl rfl, rfl, rfl, rfl⟩, ⟨⟨rfl, rfl, rfl, rfl, fun _ => rfl, fun _ _ => .inl rfl⟩, ⟨⟨rfl, rfl, rfl, rfl, fun _ => rfl, fun _ _ => .inl rfl⟩, trivial⟩⟩, trivial⟩⟩, ?_⟩
  rintro s0 m0 ⟨m, hm, h1, rfl, hmeas⟩
  by_cases hlt : m < l.length
  · conv => whnf
    conv => whnf
    refine ifB_dec (fun w1 => ?_) (fun w1 => ?_)
    · conv => whnf
      conv => whnf
      refine ⟨[], [1, 2, 4, 6, 7], fun st mq => ∃ (k : Nat), (k ≤ h.rules.length) ∧ (∀ j, j < k → condB h l m j = false) ∧ st = ⟨[(1, ints l), (2, .optr 0 0 0 0), (4, .optr 1 0 0 0), (6, i64 m), (7, i64 k)], ⟨[⟨2, 1, fun _ => hallC h, 0, false, true, true⟩, ⟨2, 1, fun _ => [i64 0, i64 0], 0, false, true, true⟩], [], none, 0⟩, []⟩ ∧ mq = h.rules.length - k,
        ⟨_, _, ⟨0, by omega, inv_noneB, rfl, rfl⟩, ⟨⟨.inl rfl, rfl, rfl, rfl⟩, ⟨⟨rfl, rfl, rfl, rfl, fun _ => rfl, fun _ _ => .inl rfl⟩, ⟨⟨rfl, rfl, rfl, rfl, fun _ => rfl, fun _ _ => .inl rfl⟩, trivial⟩⟩, trivial⟩⟩, ?_⟩
      rintro s0 m0 ⟨k, hk, h2, rfl, hmeas⟩
      by_cases hltk : k < h.rules.length
      · have h89 := fun x => S89 l hl m x
        conv => whnf
        conv => whnf
        conv => whnf
        refine ifB_dec (fun w2 => ?_) (fun w2 => ?_)
        · conv => whnf
          conv => whnf
          conv => whnf
          refine ⟨⟨(by omega), (by omega)⟩, ?_⟩
          conv => whnf
          conv => whnf
          conv => whnf
          refine ⟨[], by kernel_rfl, ?_⟩
          conv => whnf
          conv => whnf
          conv => whnf
          refine ⟨⟨(by omega), (by omega)⟩, ?_⟩
          conv => whnf
          conv => whnf
          conv => whnf
          refine ifB_beq (fun w3 => ?_) (fun w3 => ?_)
          · conv => whnf
            conv => whnf
            conv => whnf
            refine .inl ⟨_, _, byX rfl (Sound1.pl (h89 _) rfl), ?_⟩
            conv => whnf
            conv => whnf
            conv => whnf
            refine ifB_not ?_
            conv => whnf
            conv => whnf
            conv => whnf
            refine ifB_beqB (fun w4 => ?_) (fun w4 => ?_)
            · conv => whnf
              conv => whnf
              conv => whnf
              refine ⟨inK64 (by omega) (by omega), ?_⟩
              conv => whnf
              conv => whnf
              conv => whnf
              refine ⟨_, _, ⟨⟨k + 1, by omega, inv_nextB h2 (cond_no w3 w4), rfl, rfl⟩, by omega⟩, ⟨⟨.inl rfl, rfl, rfl, rfl⟩, ⟨⟨rfl, rfl, rfl, rfl, fun _ => rfl, fun _ _ => .inl rfl⟩, ⟨⟨rfl, rfl, rfl, rfl, fun _ => rfl, fun _ _ => .inl rfl⟩, trivial⟩⟩, trivial⟩⟩
            · conv => whnf
              conv => whnf
              conv => whnf
              refine ⟨?_, nofun⟩
              exact ave_br _ (broken_at hlt hltk h1 h2 (cond_yes w3 w4))
          · conv => whnf
            conv => whnf
            conv => whnf
            refine ⟨inK64 (by omega) (by omega), ?_⟩
            conv => whnf
            conv => whnf
            conv => whnf
            refine ⟨_, _, ⟨⟨k + 1, by omega, inv_nextB h2 (cond_ne w3), rfl, rfl⟩, by omega⟩, ⟨⟨.inl rfl, rfl, rfl, rfl⟩, ⟨⟨rfl, rfl, rfl, rfl, fun _ => rfl, fun _ _ => .inl rfl⟩, ⟨⟨rfl, rfl, rfl, rfl, fun _ => rfl, fun _ _ => .inl rfl⟩, trivial⟩⟩, trivial⟩⟩
        · (exfalso; omega)
      · have hrow : (rowB h l m).isSome = false := by
          have e : k = h.rules.length := by omega
          subst e
          unfold rowB
          rw [firstN_none h2]; rfl
        conv => whnf
        conv => whnf
        conv => whnf
        refine ifB_dec (fun w2 => ?_) (fun w2 => ?_)
        · (exfalso; omega)
        · conv => whnf
          conv => whnf
          conv => whnf
          refine ⟨inK64 (by omega) (by omega), ?_⟩
          conv => whnf
          conv => whnf
          conv => whnf
          refine ⟨_, _, ⟨⟨m + 1, by omega, inv_nextB h1 hrow, rfl, rfl⟩, by omega⟩, ⟨⟨.inl rfl, rfl, rfl, rfl⟩, ⟨⟨rfl, rfl, rfl, rfl, fun _ => rfl, fun _ _ => .inl rfl⟩, ⟨⟨rfl, rfl, rfl, rfl, fun _ => rfl, fun _ _ => .inl rfl⟩, trivial⟩⟩, trivial⟩⟩
    · (exfalso; omega)
  · conv => whnf
    conv => whnf
    refine ifB_dec (fun w1 => ?_) (fun w1 => ?_)
    · (exfalso; omega)
    · conv => whnf
      conv => whnf
      refine ⟨?_, nofun⟩
      exact ave_br0 _ (broken_none (by have e : m = l.length := by omega
                                       subst e; exact h1))

theorem S36 (l : List Int) (hl : l.length ≤ 1000000) : SP 36 [ints l] (ints l) true := by
  refine sound (d := 2) tok2 mixed2 Tryd.func36 (by kernel_rfl) (by kernel_rfl) ?_
  conv => whnf
  refine ⟨⟨(by omega), (by show _ * (8 + 1) ≤ _; omega)⟩, ?_⟩
  conv => whnf
  refine ⟨?_, fun _ => ⟨rfl, ?_⟩⟩
  · exact ⟨rfl, Nat.zero_add _, fun i hi => rfl⟩
  · exact ⟨fun i _ x hx => ⟨_, List.mem_singleton.1 hx⟩, trivial⟩
theorem S34 (h : Hal) (hr : h.rules.length ≤ 1000) : SP 34 [hallA h] (hallA h) false := by
  refine sound (d := 2) tok2 mixed2 Tryd.func34 (by kernel_rfl) (by kernel_rfl) ?_
  conv => whnf
  refine ⟨[], by kernel_rfl, ?_⟩
  conv => whnf
  refine ⟨⟨(by omega), (by show _ * (24 + 1) ≤ _; omega)⟩, ?_⟩
  conv => whnf
  refine ⟨?_, nofun⟩
  exact ave_agg2 (k := 4) rfl ⟨rfl, Nat.zero_add _, fun i hi => rfl⟩
theorem S32 (h : Hal) (l : List Int) : SP 32 [hallA h, ints l] (vb (decide (h.rules.length ≤ 14) && decide (l.length ≤ 8))) false := by
  refine sound (d := 2) tok2 mixed2 Tryd.func32 (by kernel_rfl) (by kernel_rfl) ?_
  conv => whnf
  refine ifB_dec (fun w1 => ?_) (fun w1 => ?_)
  · conv => whnf
    refine ⟨?_, nofun⟩
    refine endb ?_
    rw [decide_eq_true (show h.rules.length ≤ 14 by omega), Bool.true_and]
    exact decide_eq_decide.2 (by omega)
  · conv => whnf
    refine ⟨?_, nofun⟩
    refine endb ?_
    rw [decide_eq_false (show ¬ h.rules.length ≤ 14 by omega)]; rfl
def brokenR (h : Hal) (l : List Int) : AV :=
  if openH h l ≠ 0 then .tuple [stA (0, 0), i64 (openH h l)] else match brokenF h l with | none => .tuple [stA (0, 0), i64 12] | some x => .tuple [stA (x.1, x.2), i64 0]
theorem S35 (h : Hal) (hr : h.rules.length ≤ 1000) (l : List Int) (hl : l.length ≤ 1000) : SP 35 [hallA h, ints l] (brokenR h l) false := by
  have h85 := S85 h hr l (by omega)
  have h86 := S86 h hr l hl
  unfold brokenR
  by_cases h0 : openH h l = 0
  · rw [if_neg (not_not_intro h0)]
    rw [h0] at h85
    cases hb : brokenF h l with
    | none =>
      rw [hb] at h86
      refine sound (d := 2) tok2 mixed2 Tryd.func35 (by kernel_rfl) (by kernel_rfl) ?_
      conv => whnf
      refine .inl ⟨_, _, byX rfl (Sound1.pl (h85) rfl), ?_⟩
      conv => whnf
      refine .inl ⟨_, _, byX rfl (Sound1.pl (h86) rfl), ?_⟩
      conv => whnf
      refine ⟨[], by kernel_rfl, ?_⟩
      conv => whnf
      refine .inl ⟨_, _, byX rfl (Sound1.pl (S69 _ _) rfl), ?_⟩
      conv => whnf
      refine ⟨?_, nofun⟩
      exact ave_tup2 (ave_agg2 (k := 3) rfl rfl) rfl
    | some x =>
      rw [hb] at h86
      refine sound (d := 2) tok2 mixed2 Tryd.func35 (by kernel_rfl) (by kernel_rfl) ?_
      conv => whnf
      refine .inl ⟨_, _, byX rfl (Sound1.pl (h85) rfl), ?_⟩
      conv => whnf
      refine .inl ⟨_, _, byX rfl (Sound1.pl (h86) rfl), ?_⟩
      conv => whnf
      refine ⟨[], by kernel_rfl, ?_⟩
      conv => whnf
      refine .inl ⟨_, _, byX rfl (Sound1.pl (S69 _ _) rfl), ?_⟩
      conv => whnf
      refine ⟨?_, nofun⟩
      exact ave_tup2 (ave_agg2 (k := 3) rfl rfl) rfl
  · rw [if_pos h0]
    refine sound (d := 2) tok2 mixed2 Tryd.func35 (by kernel_rfl) (by kernel_rfl) ?_
    conv => whnf
    refine .inl ⟨_, _, byX rfl (Sound1.pl (h85) rfl), ?_⟩
    conv => whnf
    refine ifB_bne (fun w1 => ?_) (fun w1 => ?_)
    · conv => whnf
      refine ⟨?_, nofun⟩
      exact ave_tup2 (ave_agg2 (k := 3) rfl rfl) rfl
    · (exfalso; omega)
/-- The steps after a machine entered another one. -/
def enteredL (l : List Int) (x : Int × Int) : List Int := l.set x.1.toNat x.2
def enterE (h : Hal) (l : List Int) (x : Int × Int) : Int := if openH h l = 0 then (if decide (0 ≤ x.1 ∧ x.1 ≤ (l.length : Int) - 1) && isStepB x.2 then 0 else 6) else openH h l
def mayR (h : Hal) (l : List Int) (x : Int × Int) : AV :=
  if enterE h l x ≠ 0 then t2 0 (enterE h l x) else match brokenF h (enteredL l x) with | none => t2 0 0 | some y => t2 y.2 24
theorem entered_len (l : List Int) (x : Int × Int) : (enteredL l x).length = l.length := by unfold enteredL; simp
theorem S42 (l : List Int) (hl : l.length ≤ 1000) (x : Int × Int) (hx : 0 ≤ x.1 ∧ x.1 < l.length) : SP 42 [ints l, stA x] (ints (enteredL l x)) true := by
  have h36 := S36 l (by omega)
  refine sound (d := 2) tok2 mixed2 Tryd.func42 (by kernel_rfl) (by kernel_rfl) ?_
  conv => whnf
  refine .inl ⟨_, _, byX rfl (h36), ?_⟩
  conv => whnf
  refine ⟨⟨(by omega), (by omega)⟩, ?_⟩
  refine ⟨_, fun i _ => rowI _ _ i _ (by first | omega | (simp only [List.length_set]; omega) | (simp only [List.length_replicate]; omega) | (simp only [List.length_set, List.length_replicate]; omega)), ?_⟩
  conv => whnf
  refine ⟨?_, fun _ => ⟨rfl, ?_⟩⟩
  · exact ⟨rfl, (entered_len l x).symm, fun i hi => rfl⟩
  · exact ⟨fun i _ x hx => ⟨_, List.mem_singleton.1 hx⟩, trivial⟩
theorem S86n (h : Hal) (hr : h.rules.length ≤ 1000) (l : List Int) (hl : l.length ≤ 1000) {n : Nat} {f : Nat → List AV} (hn : n = l.length) (hf : ∀ i, i < n → f i = [i64 (l.getD i 0)]) : SP 86 [hallA h, .rslice 1 n f] (brA (brokenF h l)) false := by
  refine (S86 h hr l hl).argsD rfl fun i y z hy hz => ?_
  match i, hy, hz with
  | 0, hy, hz => cases hy; cases hz; exact .inl rfl
  | 1, hy, hz => cases hy; cases hz; exact .inr ⟨1, AVF_rows hn hf 0⟩
theorem enter_form (h : Hal) (l : List Int) (x : Int × Int) : firstOf [openH h l, if decide (0 ≤ x.1 ∧ x.1 ≤ (l.length : Int) - 1) && isStepB x.2 then 0 else 6] = enterE h l x := by
  rw [first2]
  unfold enterE
  by_cases h0 : openH h l = 0
  · rw [if_neg (not_not_intro h0), if_pos h0]
  · rw [if_pos h0, if_neg h0]
theorem enter_ok {h : Hal} {l : List Int} {x : Int × Int} (h0 : enterE h l x = 0) : openH h l = 0 ∧ (0 ≤ x.1 ∧ x.1 ≤ (l.length : Int) - 1) ∧ isStepB x.2 = true := by
  unfold enterE at h0
  split at h0
  · rename_i h1
    split at h0
    · rename_i h2
      rw [Bool.and_eq_true, decide_eq_true_iff] at h2
      exact ⟨h1, h2⟩
    · cases h0
  · rename_i h1; exact absurd h0 h1
theorem S37 (h : Hal) (hr : h.rules.length ≤ 1000) (l : List Int) (hl : l.length ≤ 1000) (x : Int × Int) : SP 37 [hallA h, ints l, stA x] (mayR h l x) false := by
  have h85 := S85 h hr l (by omega)
  have h86 := @S86n h hr (enteredL l x) (by rw [entered_len]; exact hl)
  have h78 := S78 x.1 0 ((l.length : Int) - 1)
  have h84 := S84 x.2
  have h87 := S87 l (by omega)
  have hform := enter_form h l x
  unfold mayR
  by_cases hE : enterE h l x = 0
  · obtain ⟨e1, e2, e3⟩ := enter_ok hE
    rw [if_neg (not_not_intro hE)]
    rw [e1] at h85
    rw [decide_eq_true e2] at h78
    rw [e3] at h84
    cases hb : brokenF h (enteredL l x) with
    | none =>
      rw [hb] at h86
      refine sound (d := 2) tok2 mixed2 Tryd.func37 (by kernel_rfl) (by kernel_rfl) ?_
      conv => whnf
      refine ⟨[], by kernel_rfl, ?_⟩
      conv => whnf
      refine .inl ⟨_, _, byX rfl (Sound1.pl (h85) rfl), ?_⟩
      conv => whnf
      refine ⟨inK64 (by omega) (by omega), ?_⟩
      conv => whnf
      refine .inl ⟨_, _, byX rfl (Sound1.pl (h78) rfl), ?_⟩
      conv => whnf
      refine .inl ⟨_, _, byX rfl (Sound1.pl (h84) rfl), ?_⟩
      conv => whnf
      refine .inl ⟨_, _, byX rfl (Sound1.pl (S69 _ _) rfl), ?_⟩
      conv => whnf
      refine .inl ⟨_, _, byX rfl (Sound1.pl (S83_2 _ _ ⟨rfl, rfl⟩) rfl), ?_⟩
      conv => whnf
      refine .inl ⟨_, _, byX rfl (h87), ?_⟩
      conv => whnf
      refine ⟨⟨(by omega), (by omega)⟩, ?_⟩
      refine ⟨_, fun i _ => rowI _ _ i _ (by first | omega | (simp only [List.length_set]; omega) | (simp only [List.length_replicate]; omega) | (simp only [List.length_set, List.length_replicate]; omega)), ?_⟩
      conv => whnf
      refine .inl ⟨_, _, byX rfl (Sound1.pl (h86 ?_ ?_) rfl), ?_⟩
      · exact (entered_len l x).symm
      · exact fun i hi => rfl
      · conv => whnf
        refine ⟨?_, nofun⟩
        exact ave_tup2 rfl rfl
    | some y =>
      rw [hb] at h86
      refine sound (d := 2) tok2 mixed2 Tryd.func37 (by kernel_rfl) (by kernel_rfl) ?_
      conv => whnf
      refine ⟨[], by kernel_rfl, ?_⟩
      conv => whnf
      refine .inl ⟨_, _, byX rfl (Sound1.pl (h85) rfl), ?_⟩
      conv => whnf
      refine ⟨inK64 (by omega) (by omega), ?_⟩
      conv => whnf
      refine .inl ⟨_, _, byX rfl (Sound1.pl (h78) rfl), ?_⟩
      conv => whnf
      refine .inl ⟨_, _, byX rfl (Sound1.pl (h84) rfl), ?_⟩
      conv => whnf
      refine .inl ⟨_, _, byX rfl (Sound1.pl (S69 _ _) rfl), ?_⟩
      conv => whnf
      refine .inl ⟨_, _, byX rfl (Sound1.pl (S83_2 _ _ ⟨rfl, rfl⟩) rfl), ?_⟩
      conv => whnf
      refine .inl ⟨_, _, byX rfl (h87), ?_⟩
      conv => whnf
      refine ⟨⟨(by omega), (by omega)⟩, ?_⟩
      refine ⟨_, fun i _ => rowI _ _ i _ (by first | omega | (simp only [List.length_set]; omega) | (simp only [List.length_replicate]; omega) | (simp only [List.length_set, List.length_replicate]; omega)), ?_⟩
      conv => whnf
      refine .inl ⟨_, _, byX rfl (Sound1.pl (h86 ?_ ?_) rfl), ?_⟩
      · exact (entered_len l x).symm
      · exact fun i hi => rfl
      · conv => whnf
        refine ⟨?_, nofun⟩
        exact ave_tup2 rfl rfl
  · rw [if_pos hE]
    refine sound (d := 2) tok2 mixed2 Tryd.func37 (by kernel_rfl) (by kernel_rfl) ?_
    by_cases hw : 0 ≤ x.1 ∧ x.1 ≤ (l.length : Int) - 1
    · rw [decide_eq_true hw] at h78
      rw [decide_eq_true hw, Bool.true_and] at hform
      rw [← hform] at hE ⊢
      conv => whnf
      refine ⟨[], by kernel_rfl, ?_⟩
      conv => whnf
      refine .inl ⟨_, _, byX rfl (Sound1.pl (h85) rfl), ?_⟩
      conv => whnf
      refine ⟨inK64 (by omega) (by omega), ?_⟩
      conv => whnf
      refine .inl ⟨_, _, byX rfl (Sound1.pl (h78) rfl), ?_⟩
      conv => whnf
      refine .inl ⟨_, _, byX rfl (Sound1.pl (h84) rfl), ?_⟩
      conv => whnf
      refine .inl ⟨_, _, byX rfl (Sound1.pl (S69 _ _) rfl), ?_⟩
      conv => whnf
      refine .inl ⟨_, _, byX rfl (Sound1.pl (S83_2 _ _ ⟨rfl, rfl⟩) rfl), ?_⟩
      conv => whnf
      refine ifB_bne (fun w1 => ?_) (fun w1 => ?_)
      · conv => whnf
        refine ⟨?_, nofun⟩
        exact ave_tup2 rfl rfl
      · (exfalso; omega)
    · rw [decide_eq_false hw] at h78
      rw [decide_eq_false hw, Bool.false_and] at hform
      rw [← hform] at hE ⊢
      conv => whnf
      refine ⟨[], by kernel_rfl, ?_⟩
      conv => whnf
      refine .inl ⟨_, _, byX rfl (Sound1.pl (h85) rfl), ?_⟩
      conv => whnf
      refine ⟨inK64 (by omega) (by omega), ?_⟩
      conv => whnf
      refine .inl ⟨_, _, byX rfl (Sound1.pl (h78) rfl), ?_⟩
      conv => whnf
      refine .inl ⟨_, _, byX rfl (Sound1.pl (S69 _ _) rfl), ?_⟩
      conv => whnf
      refine .inl ⟨_, _, byX rfl (Sound1.pl (S83_2 _ _ ⟨rfl, rfl⟩) rfl), ?_⟩
      conv => whnf
      refine ifB_bne (fun w1 => ?_) (fun w1 => ?_)
      · conv => whnf
        refine ⟨?_, nofun⟩
        exact ave_tup2 rfl rfl
      · (exfalso; omega)
end Go.Tr

/- Contracts of chapter 7: what the package's functions answer. Conditions: none. -/
namespace Go.Tr
open Go Go.Proofs
set_option maxRecDepth 20000
set_option maxHeartbeats 8000000

abbrev tnA (f : Int × Bool) (c : Int) : AV := .agg [i64 f.1, vb f.2, i64 c]
def mayB (p : Pln) (s : S2) (c : Int) : Bool := decide (c = -1) || (decide ((stp p s).wait = 0) && hasI (stp p s).exits c)
def turnE (p : Pln) (s : S2) (f : Int × Bool) (c : Int) : Int := if openE p s f = 0 then (if mayB p s c then 0 else 24) else openE p s f
def turnR (p : Pln) (s : S2) (f : Int × Bool) (c : Int) : AV :=
  if turnE p s f c ≠ 0 then .tuple [stA (0, 0), i64 0, i64 (turnE p s f c)] else .tuple [stA (turnF p f s c).1, i64 (turnF p f s c).2, i64 0]
def homeR (p : Pln) (s : S2) (f : Int × Bool) : AV :=
  if openE p s f ≠ 0 then .tuple [sts [], i64 0, i64 (openE p s f)] else match homeF p f s with | none => .tuple [sts [], i64 0, i64 12] | some x => .tuple [sts x.1, i64 x.2, i64 0]
def htR (p : Pln) (s : S2) (f : Int × Bool) : AV :=
  if openE p s f ≠ 0 then .tuple [stA (0, 0), i64 0, i64 (openE p s f)] else match homeTurnF p f s with | none => .tuple [stA (0, 0), i64 0, i64 21] | some x => .tuple [stA x.1, i64 x.2, i64 0]
def seenR (p : Pln) (s : S2) (f : Int × Bool) : AV := if openE p s f ≠ 0 then t2 0 (openE p s f) else t2 (seenB s.2 f) 0
theorem S44 (p : Pln) (hp : FewP p) (s : S2) (f : Int × Bool) : SP 44 [planA p, stA s, ftA f] (seenR p s f) false := by
  have h67 := S67 p hp s f
  have h90 := S90 s.2 f
  unfold seenR
  refine sound (d := 2) tok2 mixed2 Tryd.func44 (by kernel_rfl) (by kernel_rfl) ?_
  conv => whnf
  refine .inl ⟨_, _, byX rfl (h67), ?_⟩
  conv => whnf
  refine ifB_bne (fun w1 => ?_) (fun w1 => ?_)
  · conv => whnf
    refine ⟨?_, nofun⟩
    rw [if_pos w1]; exact ave_tup2 rfl rfl
  · conv => whnf
    refine .inl ⟨_, _, byX rfl (Sound1.pl (h90) rfl), ?_⟩
    conv => whnf
    refine ⟨?_, nofun⟩
    rw [if_neg (not_not_intro w1)]; exact ave_tup2 rfl rfl
theorem S30 (p : Pln) (hp : FewP p) (s : S2) (f : Int × Bool) : SP 30 [planA p, stA s, ftA f] (htR p s f) false := by
  have h67 := S67 p hp s f
  unfold htR
  by_cases h0 : openE p s f = 0
  · rw [if_neg (not_not_intro h0)]
    rw [h0] at h67
    obtain ⟨hg, hs, hf⟩ := open_ok hp h0
    have h81 := S81 p s f hs.at
    cases hx : homeTurnF p f s with
    | none =>
      rw [hx] at h81
      refine sound (d := 2) tok2 mixed2 Tryd.func30 (by kernel_rfl) (by kernel_rfl) ?_
      conv => whnf
      refine .inl ⟨_, _, byX rfl (h67), ?_⟩
      conv => whnf
      refine .inl ⟨_, _, byX rfl (Sound1.pl (h81) rfl), ?_⟩
      conv => whnf
      refine ⟨[], by kernel_rfl, ?_⟩
      conv => whnf
      refine .inl ⟨_, _, byX rfl (Sound1.pl (S69 _ _) rfl), ?_⟩
      conv => whnf
      refine ⟨?_, nofun⟩
      exact ave_tup3 (ave_agg2 (k := 3) rfl rfl) rfl rfl
    | some x =>
      rw [hx] at h81
      refine sound (d := 2) tok2 mixed2 Tryd.func30 (by kernel_rfl) (by kernel_rfl) ?_
      conv => whnf
      refine .inl ⟨_, _, byX rfl (h67), ?_⟩
      conv => whnf
      refine .inl ⟨_, _, byX rfl (Sound1.pl (h81) rfl), ?_⟩
      conv => whnf
      refine ⟨[], by kernel_rfl, ?_⟩
      conv => whnf
      refine .inl ⟨_, _, byX rfl (Sound1.pl (S69 _ _) rfl), ?_⟩
      conv => whnf
      refine ⟨?_, nofun⟩
      exact ave_tup3 (ave_agg2 (k := 3) rfl rfl) rfl rfl
  · rw [if_pos h0]
    refine sound (d := 2) tok2 mixed2 Tryd.func30 (by kernel_rfl) (by kernel_rfl) ?_
    conv => whnf
    refine .inl ⟨_, _, byX rfl (h67), ?_⟩
    conv => whnf
    refine ifB_bne (fun w1 => ?_) (fun w1 => ?_)
    · conv => whnf
      refine ⟨?_, nofun⟩
      exact ave_tup3 (ave_agg2 (k := 3) rfl rfl) rfl rfl
    · (exfalso; omega)
theorem S27 (p : Pln) (hp : FewP p) (s : S2) (f : Int × Bool) : SP 27 [planA p, stA s, ftA f] (homeR p s f) false := by
  have h67 := S67 p hp s f
  unfold homeR
  by_cases h0 : openE p s f = 0
  · rw [if_neg (not_not_intro h0)]
    rw [h0] at h67
    obtain ⟨hg, hs, hf⟩ := open_ok hp h0
    have h79 := S79 p hg f s hs
    cases hx : homeF p f s with
    | none =>
      rw [hx] at h79
      refine sound (d := 2) tok2 mixed2 Tryd.func27 (by kernel_rfl) (by kernel_rfl) ?_
      conv => whnf
      refine .inl ⟨_, _, byX rfl (h67), ?_⟩
      conv => whnf
      refine .inl ⟨_, _, byX rfl (h79), ?_⟩
      conv => whnf
      refine .inl ⟨_, _, byX rfl (Sound1.pl (S69 _ _) rfl), ?_⟩
      conv => whnf
      refine ⟨?_, nofun⟩
      exact ave_tup3 ⟨rfl, rfl, fun _ _ => rfl⟩ rfl rfl
    | some x =>
      rw [hx] at h79
      refine sound (d := 2) tok2 mixed2 Tryd.func27 (by kernel_rfl) (by kernel_rfl) ?_
      conv => whnf
      refine .inl ⟨_, _, byX rfl (h67), ?_⟩
      conv => whnf
      refine .inl ⟨_, _, byX rfl (h79), ?_⟩
      conv => whnf
      refine .inl ⟨_, _, byX rfl (Sound1.pl (S69 _ _) rfl), ?_⟩
      conv => whnf
      refine ⟨?_, nofun⟩
      exact ave_tup3 ⟨rfl, rfl, fun _ _ => rfl⟩ rfl rfl
  · rw [if_pos h0]
    refine sound (d := 2) tok2 mixed2 Tryd.func27 (by kernel_rfl) (by kernel_rfl) ?_
    conv => whnf
    refine .inl ⟨_, _, byX rfl (h67), ?_⟩
    conv => whnf
    refine ifB_bne (fun w1 => ?_) (fun w1 => ?_)
    · conv => whnf
      refine ⟨?_, nofun⟩
      exact ave_tup3 rfl rfl rfl
    · (exfalso; omega)
theorem S45 (p : Pln) (hp : FewP p) (s : S2) (f : Int × Bool) (c : Int) : SP 45 [planA p, stA s, tnA f c] (turnR p s f c) false := by
  have h67 := S67 p hp s f
  unfold turnR
  by_cases h0 : openE p s f = 0
  · rw [h0] at h67
    obtain ⟨hg, hs, hf⟩ := open_ok hp h0
    have h91 := S91 (stp p s) c (by have := hp.exits _ hs.k; show (p.steps.getD s.1.toNat stp0).exits.length ≤ _; omega)
    have h92 := S92 p s f c hs.at
    have hat := hs.at
    have hE : turnE p s f c = if mayB p s c then 0 else 24 := by unfold turnE; rw [if_pos h0]
    rw [hE]
    cases hm : mayB p s c with
    | true =>
      rw [show (decide (c = -1) || (decide ((stp p s).wait = 0) && hasI (stp p s).exits c)) = true from hm] at h91
      refine sound (d := 2) tok2 mixed2 Tryd.func45 (by kernel_rfl) (by kernel_rfl) ?_
      conv => whnf
      refine .inl ⟨_, _, byX rfl (h67), ?_⟩
      conv => whnf
      refine ⟨[], by kernel_rfl, ?_⟩
      conv => whnf
      refine ⟨⟨(by omega), (by omega)⟩, ?_⟩
      conv => whnf
      refine .inl ⟨_, _, byX rfl (Sound1.pl (h91) rfl), ?_⟩
      conv => whnf
      refine .inl ⟨_, _, byX rfl (Sound1.pl (S69 _ _) rfl), ?_⟩
      conv => whnf
      refine .inl ⟨_, _, byX rfl (Sound1.pl (h92) rfl), ?_⟩
      conv => whnf
      refine ⟨?_, nofun⟩
      exact ave_tup3 (ave_agg2 (k := 3) rfl rfl) rfl rfl
    | false =>
      rw [show (decide (c = -1) || (decide ((stp p s).wait = 0) && hasI (stp p s).exits c)) = false from hm] at h91
      refine sound (d := 2) tok2 mixed2 Tryd.func45 (by kernel_rfl) (by kernel_rfl) ?_
      conv => whnf
      refine .inl ⟨_, _, byX rfl (h67), ?_⟩
      conv => whnf
      refine ⟨[], by kernel_rfl, ?_⟩
      conv => whnf
      refine ⟨⟨(by omega), (by omega)⟩, ?_⟩
      conv => whnf
      refine .inl ⟨_, _, byX rfl (Sound1.pl (h91) rfl), ?_⟩
      conv => whnf
      refine .inl ⟨_, _, byX rfl (Sound1.pl (S69 _ _) rfl), ?_⟩
      conv => whnf
      refine ⟨?_, nofun⟩
      exact ave_tup3 (ave_agg2 (k := 3) rfl rfl) rfl rfl
  · have hE : turnE p s f c = openE p s f := by unfold turnE; rw [if_neg h0]
    rw [hE, if_pos h0]
    refine sound (d := 2) tok2 mixed2 Tryd.func45 (by kernel_rfl) (by kernel_rfl) ?_
    conv => whnf
    refine .inl ⟨_, _, byX rfl (h67), ?_⟩
    conv => whnf
    refine ifB_beq (fun w1 => ?_) (fun w1 => ?_)
    · (exfalso; omega)
    · conv => whnf
      refine ifB_bne (fun w2 => ?_) (fun w2 => ?_)
      · conv => whnf
        refine ⟨?_, nofun⟩
        exact ave_tup3 (ave_agg2 (k := 3) rfl rfl) rfl rfl
      · (exfalso; omega)
theorem S23 (a b : List Int) (ha : a.length ≤ 1000000000) (hb : b.length ≤ 1000000000) : SP 23 [ints a, ints b] (vb (decide (a = b))) false := by
  refine sound (d := 2) tok2 mixed2 Tryd.func23 (by kernel_rfl) (by kernel_rfl) ?_
  conv => whnf
  refine ifB_bne (fun w1 => ?_) (fun w1 => ?_)
  · conv => whnf
    refine ⟨?_, nofun⟩
    show vb false = vb _
    rw [decide_eq_false]
    intro e; subst e; exact w1 rfl
  · have hab : a.length = b.length := by omega
    conv => whnf
    refine ⟨[], [0, 1, 5], fun st mq => ∃ (k : Nat), (k ≤ a.length) ∧ (∀ i, i < k → a.getD i 0 = b.getD i 0) ∧ st = ⟨[(0, ints a), (1, ints b), (5, i64 k)], ⟨[], [], none, 0⟩, []⟩ ∧ mq = a.length - k,
      ⟨_, _, ⟨0, by omega, fun i h => absurd h (Nat.not_lt_zero i), rfl, rfl⟩, ⟨⟨.inl rfl, rfl, rfl, rfl⟩, trivial, trivial⟩⟩, ?_⟩
    rintro s0 m0 ⟨k, hk, h1, rfl, hmeas⟩
    conv => whnf
    conv => whnf
    refine ifB_dec (fun w2 => ?_) (fun w2 => ?_)
    · conv => whnf
      conv => whnf
      refine ⟨[], by kernel_rfl, ?_⟩
      conv => whnf
      conv => whnf
      refine ⟨⟨(by omega), (by omega)⟩, ?_⟩
      conv => whnf
      conv => whnf
      refine ⟨⟨(by omega), (by omega)⟩, ?_⟩
      conv => whnf
      conv => whnf
      refine ifB_bne (fun w3 => ?_) (fun w3 => ?_)
      · conv => whnf
        conv => whnf
        refine ⟨?_, nofun⟩
        have e : ¬ a.getD k 0 = b.getD k 0 := w3
        show vb false = vb _
        rw [decide_eq_false]
        intro h; subst h; exact e rfl
      · conv => whnf
        conv => whnf
        refine ⟨inK64 (by omega) (by omega), ?_⟩
        have e : a.getD k 0 = b.getD k 0 := w3
        conv => whnf
        conv => whnf
        refine ⟨_, _, ⟨⟨k + 1, by omega, fun i hi => (by rcases Nat.lt_or_ge i k with h | h; exact h1 i h; rw [show i = k by omega]; exact e), rfl, rfl⟩, by omega⟩, ⟨⟨.inl rfl, rfl, rfl, rfl⟩, trivial, trivial⟩⟩
    · conv => whnf
      conv => whnf
      refine ⟨?_, nofun⟩
      have e : k = a.length := by omega
      subst e
      show vb true = vb _
      rw [decide_eq_true]
      apply List.ext_getElem hab
      intro i h2 h3
      have := h1 i h2
      simpa [List.getD_eq_getElem?_getD, h2, h3] using this
end Go.Tr

/- Contracts of chapter 7: the examples of the chapter. Conditions: none. -/
namespace Go.Tr
open Go Go.Proofs
set_option maxRecDepth 20000
set_option maxHeartbeats 8000000

def bS (l : List UInt8) : ByteArray := ⟨l.toArray⟩
def nOpen : ByteArray := bS [111, 112, 101, 110]
def nSpeed : ByteArray := bS [115, 112, 101, 101, 100]
def nRest : ByteArray := bS [114, 101, 115, 116]
def nStart : ByteArray := bS [115, 116, 97, 114, 116]
def nTurb : ByteArray := bS [116, 117, 114, 98, 105, 110, 101]
def nStop : ByteArray := bS [115, 116, 111, 112]
def nBrake : ByteArray := bS [98, 114, 97, 107, 101]
def plE : Pln := ⟨[nOpen, nSpeed], 0,
  [⟨nRest, true, 0, 0, 0, 1, [1], 0, 0, 0, 0, 0, 0, 0⟩,
   ⟨nStart, false, 0, 3, 60, 0, [], 3, 0, 3, 0, 30, 2, 3⟩,
   ⟨nTurb, false, 2, 3, 0, 3, [3], 0, 0, 0, 0, 0, 0, 0⟩,
   ⟨nStop, false, 0, 3, 40, 0, [], 0, 2, 0, 3, 20, 0, 4⟩,
   ⟨nBrake, false, 0, 4, 90, 0, [], 0, 1, 0, 3, 50, 0, 0⟩]⟩
def haE : Hal := ⟨2, [(2, 1, 0), (3, 0, 1)]⟩
theorem S66 : SP 66 [] (hallA haE) false := by
  refine sound (d := 2) tok2 mixed2 Tryd.func66 (by kernel_rfl) (by kernel_rfl) ?_
  conv => whnf
  refine ⟨?_, nofun⟩
  refine ave_agg2 (k := 4) rfl ⟨rfl, rfl, fun i hi => ?_⟩
  match i, hi with
  | 0, _ => rfl
  | 1, _ => rfl
/-- Lists equal in depth. -/
def AVL (n : Nat) (l l' : List AV) : Prop := l.length = l'.length ∧ ∀ j x y, nth? l j = some x → nth? l' j = some y → x = y ∨ AVF n x y
theorem AVL_nil (n : Nat) : AVL n [] [] := ⟨rfl, fun _ _ _ h => by cases h⟩
theorem AVL_cons {n : Nat} {x y : AV} {l l' : List AV} (h : x = y ∨ AVF n x y) (hl : AVL n l l') : AVL n (x :: l) (y :: l') := by
  refine ⟨congrArg (· + 1) hl.1, fun j a b ha hb => ?_⟩
  match j, ha, hb with
  | 0, ha, hb => cases ha; cases hb; exact h
  | j + 1, ha, hb => exact hl.2 j a b ha hb
theorem AVL_step {n : Nat} {a b c d e f x h i j k l m o : AV} {s : Stp} (hs : stpC s = [a, b, c, d, e, f, ints s.exits, h, i, j, k, l, m, o]) (hx : AVF n x (ints s.exits)) : AVL n [a, b, c, d, e, f, x, h, i, j, k, l, m, o] (stpC s) := by
  rw [hs]
  exact AVL_cons (.inl rfl) (AVL_cons (.inl rfl) (AVL_cons (.inl rfl) (AVL_cons (.inl rfl) (AVL_cons (.inl rfl) (AVL_cons (.inl rfl) (AVL_cons (.inr hx) (AVL_cons (.inl rfl) (AVL_cons (.inl rfl) (AVL_cons (.inl rfl) (AVL_cons (.inl rfl) (AVL_cons (.inl rfl) (AVL_cons (.inl rfl) (AVL_cons (.inl rfl) (AVL_nil n))))))))))))))
theorem ave_pl {a b c d : Nat} {f g : Nat → List AV} {v : Value} : AVE 5 (.agg [.rslice a b f, .val v, .rslice c d g]) (.agg [.rslice a b f, .val v, .rslice c d g]) := ave_agg3 ⟨rfl, rfl, fun _ _ => rfl⟩ rfl ⟨rfl, rfl, fun _ _ => rfl⟩
theorem S65 : SP 65 [] (planA plE) false := by
  have h : ∃ R, SP 65 [] R false ∧ AVF 5 R (planA plE) := by
    refine ⟨?R, ?h1, ?h2⟩
    case h1 =>
      refine sound (d := 2) tok2 mixed2 Tryd.func65 (by kernel_rfl) (by kernel_rfl) ?_
      conv => whnf
      refine ⟨?_, nofun⟩
      exact ave_pl
    case h2 =>
      refine AVL_cons (.inr ⟨rfl, rfl, fun i hi => ?_⟩) (AVL_cons (.inl rfl) (AVL_cons (.inr ⟨rfl, rfl, fun i hi => ?_⟩) (AVL_nil _)))
      · match i, hi with
        | 0, _ => exact AVL_cons (.inl rfl) (AVL_nil _)
        | 1, _ => exact AVL_cons (.inl rfl) (AVL_nil _)
      · match i, hi with
        | 0, _ => exact AVL_step rfl ⟨rfl, rfl, fun i hi => (by match i, hi with | 0, _ => exact AVL_cons (.inl rfl) (AVL_nil _))⟩
        | 1, _ => exact AVL_step rfl rfl
        | 2, _ => exact AVL_step rfl ⟨rfl, rfl, fun i hi => (by match i, hi with | 0, _ => exact AVL_cons (.inl rfl) (AVL_nil _))⟩
        | 3, _ => exact AVL_step rfl rfl
        | 4, _ => exact AVL_step rfl rfl
  obtain ⟨R, h1, h2⟩ := h
  exact h1.resD h2
theorem fewE : FewP plE := by
  refine ⟨by decide, by decide, fun i hi => ?_, fun i hi => ?_, fun i hi => ?_⟩
  · match i, hi with
    | 0, _ => decide
    | 1, _ => decide
  · match i, hi with
    | 0, _ => decide
    | 1, _ => decide
    | 2, _ => decide
    | 3, _ => decide
    | 4, _ => decide
  · match i, hi with
    | 0, _ => decide
    | 1, _ => decide
    | 2, _ => decide
    | 3, _ => decide
    | 4, _ => decide
theorem ex_turn : turnE plE (1, 0) noF (-1) = 0 ∧ turnF plE noF (1, 0) (-1) = ((2, 3), 30) := by decide +kernel
theorem ex_home : openE plE (2, 3) (1, true) = 0 ∧ (homeF plE (1, true) (2, 3)).map (fun x => (x.1.length, x.2)) = some (3, 91) := by decide +kernel
theorem ex_fast : fastE plE (0, 0) 2 = 0 ∧ bestW plE (0, 0) 2 11 = some ([1], 31) := by decide +kernel
theorem ex_hall : openH haE [2, 1] = 0 ∧ brokenF haE [2, 1] = some (0, 0) ∧ openH haE [0, 0] = 0 ∧ brokenF haE [0, 0] = none := by decide +kernel
theorem S35_2 (h : Hal) (hr : h.rules.length ≤ 1000) (a b : Int) {f : Nat → List AV} (hf : f 0 = [i64 a] ∧ f 1 = [i64 b]) : SP 35 [hallA h, .rslice 1 2 f] (brokenR h [a, b]) false := by
  have key : ∀ i, i < 2 → f i = [i64 (([a, b] : List Int).getD i 0)] := fun i hi => by
    match i, hi with
    | 0, _ => exact hf.1
    | 1, _ => exact hf.2
  refine (S35 h hr [a, b] (by simp)).argsD rfl fun i y x hy hx => ?_
  match i, hy, hx with
  | 0, hy, hx => cases hy; cases hx; exact .inl rfl
  | 1, hy, hx => cases hy; cases hx; exact .inr ⟨1, AVF_rows rfl key 0⟩
theorem S23_1 (l : List Int) (hl : l.length ≤ 1000000) (a : Int) {f : Nat → List AV} (hf : f 0 = [i64 a]) : SP 23 [ints l, .rslice 1 1 f] (vb (decide (l = [a]))) false := by
  have key : ∀ i, i < 1 → f i = [i64 (([a] : List Int).getD i 0)] := fun i hi => by
    match i, hi with
    | 0, _ => exact hf
  refine (S23 l [a] (by omega) (by simp)).argsD rfl fun i y x hy hx => ?_
  match i, hy, hx with
  | 0, hy, hx => cases hy; cases hx; exact .inl rfl
  | 1, hy, hx => cases hy; cases hx; exact .inr ⟨1, AVF_rows rfl key 0⟩
theorem S13 : SP 13 [] (vb true) false := by
  have h45 := S45 plE fewE (1, 0) noF (-1)
  have h27 := S27 plE fewE (2, 3) (1, true)
  have h17 := S17 plE fewE (0, 0) 2
  have h35a := @S35_2 haE (by decide) 2 1
  have h35b := @S35_2 haE (by decide) 0 0
  have h23 := @S23_1 [1] (by decide) 1
  have e1 : turnR plE (1, 0) noF (-1) = .tuple [stA (2, 3), i64 30, i64 0] := by unfold turnR; rw [ex_turn.1, ex_turn.2]; rfl
  have e2 : fastR plE (0, 0) 2 = .tuple [ints [1], i64 31, i64 0] := by unfold fastR; rw [ex_fast.1, ex_fast.2]; rfl
  have e3 : brokenR haE [2, 1] = .tuple [stA (0, 0), i64 0] := by unfold brokenR; rw [ex_hall.1, ex_hall.2.1]; rfl
  have e4 : brokenR haE [0, 0] = .tuple [stA (0, 0), i64 12] := by unfold brokenR; rw [ex_hall.2.2.1, ex_hall.2.2.2]; rfl
  obtain ⟨l, hl, e5⟩ : ∃ l : List S2, l.length = 3 ∧ homeR plE (2, 3) (1, true) = .tuple [sts l, i64 91, i64 0] := by
    obtain ⟨x, h1, h2⟩ := Option.map_eq_some_iff.1 ex_home.2
    refine ⟨x.1, congrArg Prod.fst h2, ?_⟩
    unfold homeR
    rw [ex_home.1, h1, if_neg (not_not_intro rfl)]
    show AV.tuple [sts x.1, i64 x.2, i64 0] = _
    rw [show x.2 = 91 from congrArg Prod.snd h2]
  rw [e1] at h45
  rw [e2] at h17
  rw [e5] at h27
  rw [e3] at h35a
  rw [e4] at h35b
  refine sound (d := 2) tok2 mixed2 Tryd.func13 (by kernel_rfl) (by kernel_rfl) ?_
  conv => whnf
  refine .inl ⟨_, _, byX rfl (S65), ?_⟩
  conv => whnf
  refine .inl ⟨_, _, byX rfl (Sound1.pl (S20) rfl), ?_⟩
  conv => whnf
  refine .inl ⟨_, _, byX rfl (Sound1.pl (h45) rfl), ?_⟩
  conv => whnf
  refine .inl ⟨_, _, byX rfl (S65), ?_⟩
  conv => whnf
  refine .inl ⟨_, _, byX rfl (h27), ?_⟩
  conv => whnf
  refine .inl ⟨_, _, byX rfl (S65), ?_⟩
  conv => whnf
  refine .inl ⟨_, _, byX rfl (h17), ?_⟩
  conv => whnf
  refine .inl ⟨_, _, byX rfl (S66), ?_⟩
  conv => whnf
  refine .inl ⟨_, _, byX rfl (Sound1.pl (h35a ⟨rfl, rfl⟩) rfl), ?_⟩
  conv => whnf
  refine .inl ⟨_, _, byX rfl (S66), ?_⟩
  conv => whnf
  refine .inl ⟨_, _, byX rfl (Sound1.pl (h35b ⟨rfl, rfl⟩) rfl), ?_⟩
  conv => whnf
  refine ifB_beq (fun w1 => ?_) (fun w1 => ?_)
  · conv => whnf
    refine .inl ⟨_, _, byX rfl (Sound1.pl (h23 rfl) rfl), ?_⟩
    conv => whnf
    refine ⟨?_, nofun⟩
    rfl
  · (exfalso; omega)
end Go.Tr

/- Data of chapter 7 that the ends share. Conditions: none. -/
namespace Go.Tr
open Go Go.Proofs
abbrev entsA (L : List (Int × Int)) : AV := .rslice 2 L.length fun i => [i64 (L.getD i (0, 0)).1, i64 (L.getD i (0, 0)).2]
end Go.Tr

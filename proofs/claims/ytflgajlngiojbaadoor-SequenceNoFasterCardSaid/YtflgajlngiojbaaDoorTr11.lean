/- The law SequenceNoFaster returns true. Conditions: none. -/
import Derived.Test.YtflgajlngiojbaaDoorTr10
import Derived.Test.YtflgajlngiojbaaDoorTr06
import Derived.ProofKit
set_option linter.unusedSectionVars false
set_option linter.unnecessarySimpa false
set_option linter.unusedVariables false
set_option linter.unusedSimpArgs false

namespace Go.Tr
open Go Go.Proofs
set_option maxRecDepth 20000
set_option maxHeartbeats 8000000

/-- Commands, where they lead to, and how long they take. -/
inductive Leads (p : Pln) (s0 : S2) : List Int → S2 → Int → Prop where
  | nil : Leads p s0 [] s0 0
  | snoc {cs : List Int} {s : S2} {t c : Int} {r : List S2 × Int} (h : Leads p s0 cs s t) (hc : hasI (stp p s).exits c = true) (hr : commandF p noF s c = some r) : Leads p s0 (cs ++ [c]) (lastOf r.1) (t + r.2)
theorem Leads.ok {p : Pln} (hg : Good p) {s0 : S2} (hs : OkS p s0) (hw : (stp p s0).wait = 0) {cs : List Int} {s : S2} {t : Int} (h : Leads p s0 cs s t) : OkS p s ∧ (stp p s).wait = 0 := by
  induction h with
  | nil => exact ⟨hs, hw⟩
  | snoc _ hc hr ih =>
    have := command_ok hg ih.1 (.inr (exit_ok hg ih.1 ih.2 hc)) hr
    exact ⟨this.ok, this.steady⟩
abbrev lastOr (s0 : S2) (L : List S2) : S2 := L.getLastD s0
theorem lastOr_app {s0 : S2} {L m : List S2} (h : m ≠ []) : lastOr s0 (L ++ m) = lastOf m := by
  cases m with
  | nil => exact absurd rfl h
  | cons a r => simp [lastOr, lastOf, List.getLastD_eq_getLast?, List.getLast?_append, List.getLast?_cons]
theorem leads_of_run {p : Pln} (hg : Good p) {s0 : S2} (hs : OkS p s0) (hw : (stp p s0).wait = 0) : ∀ (cs pre : List Int) (s : S2) (L : List S2) (t : Int) (L' : List S2) (t' : Int), Leads p s0 pre s t → lastOr s0 L = s → runG p noF s cs L t = (0, L', t') → Leads p s0 (pre ++ cs) (lastOr s0 L') t'
  | [], pre, s, L, t, L', t', h1, h2, h3 => by
    unfold runG at h3
    injection h3 with _ h3
    injection h3 with h3 h4
    rw [← h3, ← h4, h2, List.append_nil]; exact h1
  | c :: cs, pre, s, L, t, L', t', h1, h2, h3 => by
    unfold runG at h3
    split at h3
    · rename_i hc
      have hok := h1.ok hg hs hw
      cases hr : commandF p noF s c with
      | none => rw [hr] at h3; injection h3 with h3; cases h3
      | some r =>
        rw [hr] at h3
        have hcm := command_ok hg hok.1 (.inr (exit_ok hg hok.1 hok.2 hc)) hr
        have := leads_of_run hg hs hw cs (pre ++ [c]) (lastOf r.1) (L ++ r.1) (t + r.2) L' t' (.snoc h1 hc hr) (lastOr_app hcm.ne) h3
        rwa [List.append_assoc] at this
    · injection h3 with h3; cases h3
theorem run_of_leads {p : Pln} (hg : Good p) {s0 : S2} (hs : OkS p s0) (hw : (stp p s0).wait = 0) {cs : List Int} {s : S2} {t : Int} (h : Leads p s0 cs s t) : ∃ L, (∀ rest, runG p noF s0 (cs ++ rest) [] 0 = runG p noF s rest L t) ∧ lastOr s0 L = s ∧ (L = [] ↔ cs = []) := by
  induction h with
  | nil => exact ⟨[], fun _ => rfl, rfl, ⟨fun _ => rfl, fun _ => rfl⟩⟩
  | @snoc cs s t c r h hc hr ih =>
    obtain ⟨L, h1, h2, h3⟩ := ih
    have hok := h.ok hg hs hw
    have hcm := command_ok hg hok.1 (.inr (exit_ok hg hok.1 hok.2 hc)) hr
    refine ⟨L ++ r.1, fun rest => ?_, lastOr_app hcm.ne, ⟨fun e => absurd (List.append_eq_nil_iff.1 e).2 hcm.ne, fun e => by simp at e⟩⟩
    rw [List.append_assoc, h1]
    show runG p noF s (c :: rest) L t = _
    conv => lhs; unfold runG
    rw [if_pos hc, hr]
theorem leads_of_layer {p : Pln} {s0 : S2} : ∀ (k : Nat) (e : Ent), e ∈ layer p s0 k → Leads p s0 e.2.1 e.1 e.2.2
  | 0, e, he => by
    rw [show e = (s0, ([], 0)) from List.mem_singleton.1 he]
    exact .nil
  | k + 1, e, he => by
    obtain ⟨x, hx, he⟩ := List.mem_flatMap.1 he
    obtain ⟨c, hc, he⟩ := List.mem_filterMap.1 he
    have ih := leads_of_layer k x (norm_mem hx)
    unfold stepWay at he
    cases hr : commandF p noF x.1 c with
    | none => rw [hr] at he; cases he
    | some r =>
      rw [hr] at he
      cases he
      exact .snoc ih (hasI_mem.2 hc) hr
theorem min_time {l : List Way} {w v : Way} (h : minL l = some w) (hv : v ∈ l) : w.2 ≤ v.2 := by
  have := (minL_some.1 h).2 v hv
  rcases wlt_total w v with h1 | h1 | h1
  · exact wlt_time h1
  · rw [h1]; exact Int.le_refl _
  · rw [this] at h1; cases h1
theorem min_some {l : List Way} {v : Way} (hv : v ∈ l) : ∃ w, minL l = some w ∧ w.2 ≤ v.2 := by
  cases h : minL l with
  | none => rw [minL_none] at h; rw [h] at hv; cases hv
  | some w => exact ⟨w, rfl, min_time h hv⟩
theorem layer_of_leads {p : Pln} {s0 : S2} {cs : List Int} {s : S2} {t : Int} (h : Leads p s0 cs s t) : ∃ w, least (layer p s0 cs.length) s = some w ∧ w.2 ≤ t := by
  induction h with
  | nil => exact min_some (mem_waysTo.2 (List.mem_singleton.2 rfl))
  | @snoc cs s t c r h hc hr ih =>
    obtain ⟨w, h1, h2⟩ := ih
    rw [List.length_append]
    have hm : (lastOf r.1, (w.1 ++ [c], w.2 + r.2)) ∈ layer p s0 (cs.length + 1) := by
      refine List.mem_flatMap.2 ⟨(s, w), mem_norm.2 h1, List.mem_filterMap.2 ⟨c, hasI_mem.1 hc, ?_⟩⟩
      unfold stepWay
      rw [hr]
    obtain ⟨v, h3, h4⟩ := min_some (mem_waysTo.2 hm)
    exact ⟨v, h3, Int.le_trans h4 (by show w.2 + r.2 ≤ _; omega)⟩
theorem here_of_leads {p : Pln} {s0 : S2} {to : Int} {cs : List Int} {s : S2} {t : Int} (h : Leads p s0 cs s t) (hs : s.1 = to) : ∃ w, hereW p s0 to cs.length = some w ∧ w.2 ≤ t := by
  obtain ⟨w, h1, h2⟩ := layer_of_leads h
  obtain ⟨v, h3, h4⟩ := min_some (l := toW to (norm (layer p s0 cs.length))) (v := w) (List.mem_map.2 ⟨(s, w), List.mem_filter.2 ⟨mem_norm.2 h1, by simp [hs]⟩, rfl⟩)
  exact ⟨v, h3, Int.le_trans h4 h2⟩
theorem best_le {p : Pln} {s0 : S2} {to : Int} {k : Nat} {h : Way} (hh : hereW p s0 to k = some h) : ∀ n, k < n → ∃ b, bestW p s0 to n = some b ∧ b.2 ≤ h.2
  | 0, hk => by omega
  | n + 1, hk => by
    show ∃ b, upB (bestW p s0 to n) (hereW p s0 to n) = some b ∧ _
    rcases Nat.lt_succ_iff_lt_or_eq.1 hk with hk | hk
    · obtain ⟨b, h1, h2⟩ := best_le hh n hk
      rw [h1]
      cases h3 : hereW p s0 to n with
      | none => exact ⟨b, rfl, h2⟩
      | some x =>
        show ∃ b_1, (if x.2 < b.2 then some x else some b) = some b_1 ∧ _
        split
        · rename_i h4; exact ⟨x, rfl, by omega⟩
        · exact ⟨b, rfl, h2⟩
    · rw [← hk, hh]
      cases h1 : bestW p s0 to k with
      | none => exact ⟨h, rfl, Int.le_refl _⟩
      | some b =>
        show ∃ b_1, (if h.2 < b.2 then some h else some b) = some b_1 ∧ _
        split
        · exact ⟨h, rfl, Int.le_refl _⟩
        · rename_i h4; exact ⟨b, rfl, by omega⟩
theorem best_here {p : Pln} {s0 : S2} {to : Int} : ∀ n b, bestW p s0 to n = some b → ∃ k, k < n ∧ hereW p s0 to k = some b
  | 0, b, h => by cases h
  | n + 1, b, h => by
    have h : upB (bestW p s0 to n) (hereW p s0 to n) = some b := h
    have key : bestW p s0 to n = some b ∨ hereW p s0 to n = some b := by
      cases h1 : hereW p s0 to n with
      | none => rw [h1] at h; exact .inl h
      | some x =>
        rw [h1] at h
        cases h2 : bestW p s0 to n with
        | none => rw [h2] at h; exact .inr h
        | some y =>
          rw [h2] at h
          have h : (if x.2 < y.2 then some x else some y) = some b := h
          split at h
          · exact .inr h
          · exact .inl h
    rcases key with h1 | h1
    · obtain ⟨k, h2, h3⟩ := best_here n b h1
      exact ⟨k, by omega, h3⟩
    · exact ⟨n, by omega, h1⟩
theorem best_leads {p : Pln} (hg : Good p) {s0 : S2} (hs : OkS p s0) (hw : (stp p s0).wait = 0) {to : Int} {n : Nat} {b : Way} (h : bestW p s0 to n = some b) : ∃ s, s.1 = to ∧ Leads p s0 b.1 s b.2 ∧ b.1.length < n := by
  obtain ⟨k, h1, h2⟩ := best_here n b h
  obtain ⟨e, h3, h4⟩ := List.mem_map.1 (minL_some.1 h2).1
  obtain ⟨h5, h6⟩ := List.mem_filter.1 h3
  have h7 := leads_of_layer k e (norm_mem h5)
  have h8 := (layer_ok hg hs hw k e (norm_mem h5)).2.2.1
  rw [h4] at h7 h8
  exact ⟨e.1, by simpa using h6, h7, by omega⟩
theorem S16 (p : Pln) (hl : p.sig.length ≤ 9223372036854775807 ∧ p.steps.length ≤ 9223372036854775807) : SP 16 [planA p] (vb (decide (p.sig.length ≤ 3) && decide (p.steps.length ≤ 6))) false := by
  refine sound (d := 2) tok2 mixed2 Tryd.func16 (by kernel_rfl) (by kernel_rfl) ?_
  conv => whnf
  refine ifB_dec (fun w1 => ?_) (fun w1 => ?_)
  · conv => whnf
    refine ⟨?_, nofun⟩
    refine endb ?_
    rw [decide_eq_true (show p.sig.length ≤ 3 by omega), Bool.true_and]
    exact decide_eq_decide.2 (by omega)
  · conv => whnf
    refine ⟨?_, nofun⟩
    refine endb ?_
    rw [decide_eq_false (show ¬ p.sig.length ≤ 3 by omega), Bool.false_and]
theorem last_pos (s0 : S2) {L : List S2} (h : (L.length : Int) > 0) : L.getD ((L.length : Int) - 1).toNat (0, 0) = lastOr s0 L := by
  cases L with
  | nil => exact absurd h (by decide)
  | cons a r =>
    rw [show (((a :: r).length : Int) - 1).toNat = r.length by simp]
    simp [lastOr, List.getD_eq_getElem?_getD, List.getLastD_eq_getLast?, List.getLast?_eq_getElem?]
theorem last_zero (s0 : S2) {L : List S2} (h : ¬ (L.length : Int) > 0) : s0 = lastOr s0 L := by
  cases L with
  | nil => rfl
  | cons a r => exact absurd (show ((a :: r).length : Int) > 0 by rw [List.length_cons]; omega) h
theorem run_leads {p : Pln} (hg : Good p) {s : S2} (hs : OkS p s) (hw : (stp p s).wait = 0) (h0 : openE p s noF = 0) {cs : List Int} (hc : cs.length ≤ 10) (h : (runP p s noF cs).1 = 0) : Leads p s cs (lastOr s (runP p s noF cs).2.1) (runP p s noF cs).2.2 := by
  have e : runP p s noF cs = runG p noF s cs [] 0 := by
    unfold runP
    rw [if_neg (not_not_intro h0), if_neg (not_not_intro hw), if_neg (by omega)]
  rw [e] at h ⊢
  exact leads_of_run hg hs hw cs [] s [] 0 _ _ .nil rfl (Prod.ext h rfl)
theorem leads_run {p : Pln} (hg : Good p) {s s' : S2} {t : Int} (hs : OkS p s) (hw : (stp p s).wait = 0) (h0 : openE p s noF = 0) {cs : List Int} (hc : cs.length ≤ 10) (h : Leads p s cs s' t) : ∃ L, runP p s noF cs = (0, L, t) ∧ lastOr s L = s' ∧ (L = [] ↔ cs = []) := by
  obtain ⟨L, h1, h2, h3⟩ := run_of_leads hg hs hw h
  refine ⟨L, ?_, h2, h3⟩
  have := h1 []
  rw [List.append_nil] at this
  unfold runP
  rw [if_neg (not_not_intro h0), if_neg (not_not_intro hw), if_neg (by omega), this]
  unfold runG; rfl
theorem S10 (p : Pln) (hl : p.sig.length ≤ 9223372036854775807 ∧ p.steps.length ≤ 9223372036854775807) (s : S2) (cs : List Int) (to : Int) (hcs : cs.length ≤ 9223372036854775807) : SP 10 [planA p, stA s, .agg [ints cs, i64 to]] (vb true) false := by
  have h14 := S14 p hl
  have h16 := S16 p hl
  have h20 := S20
  cases hf : fewB p with
  | false =>
    rw [hf] at h14
    refine sound (d := 2) tok2 mixed2 Tryd.func10 (by kernel_rfl) (by kernel_rfl) ?_
    conv => whnf
    refine .inl ⟨_, _, byX rfl (Sound1.pl (S13) rfl), ?_⟩
    conv => whnf
    refine ⟨[], by kernel_rfl, ?_⟩
    conv => whnf
    refine .inl ⟨_, _, byX rfl (Sound1.pl (h14) rfl), ?_⟩
    conv => whnf
    refine ⟨?_, nofun⟩
    (rfl)
  | true =>
    rw [hf] at h14
    have hp := FewP.of hf
    have h19 := S19 p hp s noF
    by_cases h0 : openE p s noF = 0
    · obtain ⟨hg, hs, hff⟩ := open_ok hp h0
      rw [h0] at h19
      have hm := hg.m
      have h21 := S21 p (by omega) to
      have h18 := S18 p hp
      have h17 := S17 p hp s to
      by_cases hc : cs.length ≤ 10
      · have h36 := S36f cs (by omega)
        have h50 := S50 p hp s noF cs (by omega)
        cases hlt : decide (p.sig.length ≤ 3) && decide (p.steps.length ≤ 6) with
        | true =>
          rw [hlt] at h16
          by_cases hx : idxE p.steps.length to = 0
          · rw [hx] at h21
            unfold runT at h50
            unfold fastR at h17
            by_cases hw : (stp p s).wait = 0 ∧ (p.steps.getD to.toNat stp0).wait = 0
            · have hE : fastE p s to = 0 := by
                unfold fastE
                rw [if_neg (not_not_intro h0), if_neg (not_not_intro hx), if_pos hw]
              rw [hE, if_neg (not_not_intro rfl)] at h17
              have hRl := runP_len (f := noF) (cs := cs) hg hs
              have hRL := fun h => run_leads hg hs hw.1 h0 hc h
              cases hb : bestW p s to 11 with
              | none =>
                rw [hb] at h17
                generalize runP p s noF cs = R at h50 hRl hRL
                have hno : R.1 = 0 → ¬ (lastOr s R.2.1).1 = to := fun h1 h2 => by
                  obtain ⟨v, h3, _⟩ := here_of_leads (hRL h1) h2
                  obtain ⟨b, h4, _⟩ := best_le h3 11 (by omega)
                  rw [hb] at h4; cases h4
                refine sound (d := 2) tok2 mixed2 Tryd.func10 (by kernel_rfl) (by kernel_rfl) ?_
                conv => whnf
                refine .inl ⟨_, _, byX rfl (Sound1.pl (S13) rfl), ?_⟩
                conv => whnf
                refine ⟨[], by kernel_rfl, ?_⟩
                conv => whnf
                refine .inl ⟨_, _, byX rfl (Sound1.pl (h14) rfl), ?_⟩
                conv => whnf
                refine .inl ⟨_, _, byX rfl (Sound1.pl (h20) rfl), ?_⟩
                conv => whnf
                refine .inl ⟨_, _, byX rfl (Sound1.pl (h19) rfl), ?_⟩
                conv => whnf
                refine .inl ⟨_, _, byX rfl (Sound1.pl (h16) rfl), ?_⟩
                conv => whnf
                refine .inl ⟨_, _, byX rfl (Sound1.pl (h21) rfl), ?_⟩
                conv => whnf
                refine ifB_dec (fun w1 => ?_) (fun w1 => ?_)
                · (exfalso; omega)
                · conv => whnf
                  refine ⟨[], by kernel_rfl, ?_⟩
                  conv => whnf
                  refine .inl ⟨_, _, byX rfl (h18), ?_⟩
                  conv => whnf
                  refine .inl ⟨_, _, byX rfl (h17), ?_⟩
                  conv => whnf
                  refine ⟨[], by kernel_rfl, ?_⟩
                  conv => whnf
                  refine .inl ⟨_, _, byX rfl (h18), ?_⟩
                  conv => whnf
                  refine .inl ⟨_, _, byX rfl (Sound1.pl (h20) rfl), ?_⟩
                  conv => whnf
                  refine .inl ⟨_, _, byX rfl (h36), ?_⟩
                  conv => whnf
                  refine .inl ⟨_, _, byX rfl (h50), ?_⟩
                  conv => whnf
                  refine ifB_dec (fun w2 => ?_) (fun w2 => ?_)
                  · conv => whnf
                    refine ⟨inK64 (by omega) (by omega), ?_⟩
                    conv => whnf
                    refine ⟨⟨(by omega), (by omega)⟩, ?_⟩
                    conv => whnf
                    refine ifB_bne (fun w3 => ?_) (fun w3 => ?_)
                    · conv => whnf
                      refine ⟨?_, nofun⟩
                      (rfl)
                    · conv => whnf
                      refine ⟨?_, nofun⟩
                      (exact endb (bne_iff_ne.2 fun h => hno w3 (by rw [← last_pos s w2]; exact h)))
                  · conv => whnf
                    refine ifB_bne (fun w3 => ?_) (fun w3 => ?_)
                    · conv => whnf
                      refine ⟨?_, nofun⟩
                      (rfl)
                    · conv => whnf
                      refine ⟨?_, nofun⟩
                      (exact endb (bne_iff_ne.2 fun h => hno w3 (by rw [← last_zero s w2]; exact h)))
              | some w =>
                rw [hb] at h17
                obtain ⟨s', hs1, hs2, hs3⟩ := best_leads hg hs hw.1 hb
                obtain ⟨L, hL1, hL2, hL3⟩ := leads_run hg hs hw.1 h0 (by omega) hs2
                have h36w := S36f w.1 (by omega)
                have h50w := S50 p hp s noF w.1 (by omega)
                have hLb := runP_len (f := noF) (cs := w.1) hg hs
                rw [hL1] at h50w hLb
                unfold runT at h50w
                have hLb : L.length ≤ 10000 := hLb
                have h50w : SP 50 [planA p, stA s, rnA noF w.1] (.tuple [sts L, i64 w.2, i64 0]) false := h50w
                have hbe : ((L.length : Int) == 0) = ((w.1.length : Int) == 0) := by
                  by_cases hLe : L = []
                  · rw [hL3.1 hLe, hLe]; rfl
                  · have h1 : 0 < L.length := List.length_pos_iff.2 hLe
                    have h2 : 0 < w.1.length := List.length_pos_iff.2 fun e => hLe (hL3.2 e)
                    rw [beq_eq_false_iff_ne.2 (by omega), beq_eq_false_iff_ne.2 (by omega)]
                generalize runP p s noF cs = R at h50 hRl hRL
                have hyes : R.1 = 0 → (lastOr s R.2.1).1 = to → w.2 ≤ R.2.2 := fun h1 h2 => by
                  obtain ⟨v, h3, h5⟩ := here_of_leads (hRL h1) h2
                  obtain ⟨b, h4, h6⟩ := best_le h3 11 (by omega)
                  rw [hb] at h4; cases h4; omega
                by_cases hLe : L = []
                · have hLl : L.length = 0 := by rw [hLe]; rfl
                  have hwl : w.1.length = 0 := by rw [hL3.1 hLe]; rfl
                  have hto : s.1 = to := by rw [← hs1, ← hL2, hLe]; rfl
                  refine sound (d := 2) tok2 mixed2 Tryd.func10 (by kernel_rfl) (by kernel_rfl) ?_
                  conv => whnf
                  refine .inl ⟨_, _, byX rfl (Sound1.pl (S13) rfl), ?_⟩
                  conv => whnf
                  refine ⟨[], by kernel_rfl, ?_⟩
                  conv => whnf
                  refine .inl ⟨_, _, byX rfl (Sound1.pl (h14) rfl), ?_⟩
                  conv => whnf
                  refine .inl ⟨_, _, byX rfl (Sound1.pl (h20) rfl), ?_⟩
                  conv => whnf
                  refine .inl ⟨_, _, byX rfl (Sound1.pl (h19) rfl), ?_⟩
                  conv => whnf
                  refine .inl ⟨_, _, byX rfl (Sound1.pl (h16) rfl), ?_⟩
                  conv => whnf
                  refine .inl ⟨_, _, byX rfl (Sound1.pl (h21) rfl), ?_⟩
                  conv => whnf
                  refine ifB_dec (fun w1 => ?_) (fun w1 => ?_)
                  · (exfalso; omega)
                  · conv => whnf
                    refine ⟨[], by kernel_rfl, ?_⟩
                    conv => whnf
                    refine .inl ⟨_, _, byX rfl (h18), ?_⟩
                    conv => whnf
                    refine .inl ⟨_, _, byX rfl (h17), ?_⟩
                    conv => whnf
                    refine ⟨[], by kernel_rfl, ?_⟩
                    conv => whnf
                    refine .inl ⟨_, _, byX rfl (h18), ?_⟩
                    conv => whnf
                    refine .inl ⟨_, _, byX rfl (Sound1.pl (h20) rfl), ?_⟩
                    conv => whnf
                    refine .inl ⟨_, _, byX rfl (h36), ?_⟩
                    conv => whnf
                    refine .inl ⟨_, _, byX rfl (h50), ?_⟩
                    conv => whnf
                    refine ifB_dec (fun w2 => ?_) (fun w2 => ?_)
                    · conv => whnf
                      refine ⟨inK64 (by omega) (by omega), ?_⟩
                      conv => whnf
                      refine ⟨⟨(by omega), (by omega)⟩, ?_⟩
                      conv => whnf
                      refine ifB_beq (fun w3 => ?_) (fun w3 => ?_)
                      · conv => whnf
                        refine ifB_beq (fun w4 => ?_) (fun w4 => ?_)
                        · conv => whnf
                          refine ifB_dec (fun w5 => ?_) (fun w5 => ?_)
                          · conv => whnf
                            refine ⟨?_, nofun⟩
                            (exact absurd (hyes w3 (by rw [← last_pos s w2]; exact w4)) (by omega))
                          · conv => whnf
                            refine ifB_dec (fun w6 => ?_) (fun w6 => ?_)
                            · (exfalso; omega)
                            · conv => whnf
                              refine ⟨[], by kernel_rfl, ?_⟩
                              conv => whnf
                              refine .inl ⟨_, _, byX rfl (h18), ?_⟩
                              conv => whnf
                              refine .inl ⟨_, _, byX rfl (Sound1.pl (h20) rfl), ?_⟩
                              conv => whnf
                              refine .inl ⟨_, _, byX rfl (h50w), ?_⟩
                              conv => whnf
                              refine ifB_bne (fun w7 => ?_) (fun w7 => ?_)
                              · (exfalso; omega)
                              · conv => whnf
                                refine ifB_not ?_
                                conv => whnf
                                refine ifB_beqB (fun w8 => ?_) (fun w8 => ?_)
                                · conv => whnf
                                  refine ⟨[], by kernel_rfl, ?_⟩
                                  conv => whnf
                                  refine ifB_beq (fun w9 => ?_) (fun w9 => ?_)
                                  · conv => whnf
                                    refine ifB_beq (fun w10 => ?_) (fun w10 => ?_)
                                    · conv => whnf
                                      refine ⟨?_, nofun⟩
                                      (rfl)
                                    · (exfalso; omega)
                                  · (exfalso; omega)
                                · conv => whnf
                                  refine ⟨?_, nofun⟩
                                  (exact absurd hbe w8)
                        · conv => whnf
                          refine ifB_dec (fun w5 => ?_) (fun w5 => ?_)
                          · (exfalso; omega)
                          · conv => whnf
                            refine ⟨[], by kernel_rfl, ?_⟩
                            conv => whnf
                            refine .inl ⟨_, _, byX rfl (h18), ?_⟩
                            conv => whnf
                            refine .inl ⟨_, _, byX rfl (Sound1.pl (h20) rfl), ?_⟩
                            conv => whnf
                            refine .inl ⟨_, _, byX rfl (h50w), ?_⟩
                            conv => whnf
                            refine ifB_bne (fun w6 => ?_) (fun w6 => ?_)
                            · (exfalso; omega)
                            · conv => whnf
                              refine ifB_not ?_
                              conv => whnf
                              refine ifB_beqB (fun w7 => ?_) (fun w7 => ?_)
                              · conv => whnf
                                refine ⟨[], by kernel_rfl, ?_⟩
                                conv => whnf
                                refine ifB_beq (fun w8 => ?_) (fun w8 => ?_)
                                · conv => whnf
                                  refine ifB_beq (fun w9 => ?_) (fun w9 => ?_)
                                  · conv => whnf
                                    refine ⟨?_, nofun⟩
                                    (rfl)
                                  · (exfalso; omega)
                                · (exfalso; omega)
                              · conv => whnf
                                refine ⟨?_, nofun⟩
                                (exact absurd hbe w7)
                      · conv => whnf
                        refine ifB_dec (fun w4 => ?_) (fun w4 => ?_)
                        · (exfalso; omega)
                        · conv => whnf
                          refine ⟨[], by kernel_rfl, ?_⟩
                          conv => whnf
                          refine .inl ⟨_, _, byX rfl (h18), ?_⟩
                          conv => whnf
                          refine .inl ⟨_, _, byX rfl (Sound1.pl (h20) rfl), ?_⟩
                          conv => whnf
                          refine .inl ⟨_, _, byX rfl (h50w), ?_⟩
                          conv => whnf
                          refine ifB_bne (fun w5 => ?_) (fun w5 => ?_)
                          · (exfalso; omega)
                          · conv => whnf
                            refine ifB_not ?_
                            conv => whnf
                            refine ifB_beqB (fun w6 => ?_) (fun w6 => ?_)
                            · conv => whnf
                              refine ⟨[], by kernel_rfl, ?_⟩
                              conv => whnf
                              refine ifB_beq (fun w7 => ?_) (fun w7 => ?_)
                              · conv => whnf
                                refine ifB_beq (fun w8 => ?_) (fun w8 => ?_)
                                · conv => whnf
                                  refine ⟨?_, nofun⟩
                                  (rfl)
                                · (exfalso; omega)
                              · (exfalso; omega)
                            · conv => whnf
                              refine ⟨?_, nofun⟩
                              (exact absurd hbe w6)
                    · conv => whnf
                      refine ifB_beq (fun w3 => ?_) (fun w3 => ?_)
                      · conv => whnf
                        refine ifB_beq (fun w4 => ?_) (fun w4 => ?_)
                        · conv => whnf
                          refine ifB_dec (fun w5 => ?_) (fun w5 => ?_)
                          · conv => whnf
                            refine ⟨?_, nofun⟩
                            (exact absurd (hyes w3 (by rw [← last_zero s w2]; exact w4)) (by omega))
                          · conv => whnf
                            refine ifB_dec (fun w6 => ?_) (fun w6 => ?_)
                            · (exfalso; omega)
                            · conv => whnf
                              refine ⟨[], by kernel_rfl, ?_⟩
                              conv => whnf
                              refine .inl ⟨_, _, byX rfl (h18), ?_⟩
                              conv => whnf
                              refine .inl ⟨_, _, byX rfl (Sound1.pl (h20) rfl), ?_⟩
                              conv => whnf
                              refine .inl ⟨_, _, byX rfl (h50w), ?_⟩
                              conv => whnf
                              refine ifB_bne (fun w7 => ?_) (fun w7 => ?_)
                              · (exfalso; omega)
                              · conv => whnf
                                refine ifB_not ?_
                                conv => whnf
                                refine ifB_beqB (fun w8 => ?_) (fun w8 => ?_)
                                · conv => whnf
                                  refine ⟨[], by kernel_rfl, ?_⟩
                                  conv => whnf
                                  refine ifB_beq (fun w9 => ?_) (fun w9 => ?_)
                                  · conv => whnf
                                    refine ifB_beq (fun w10 => ?_) (fun w10 => ?_)
                                    · conv => whnf
                                      refine ⟨?_, nofun⟩
                                      (rfl)
                                    · (exfalso; omega)
                                  · (exfalso; omega)
                                · conv => whnf
                                  refine ⟨?_, nofun⟩
                                  (exact absurd hbe w8)
                        · (exfalso; omega)
                      · conv => whnf
                        refine ifB_dec (fun w4 => ?_) (fun w4 => ?_)
                        · (exfalso; omega)
                        · conv => whnf
                          refine ⟨[], by kernel_rfl, ?_⟩
                          conv => whnf
                          refine .inl ⟨_, _, byX rfl (h18), ?_⟩
                          conv => whnf
                          refine .inl ⟨_, _, byX rfl (Sound1.pl (h20) rfl), ?_⟩
                          conv => whnf
                          refine .inl ⟨_, _, byX rfl (h50w), ?_⟩
                          conv => whnf
                          refine ifB_bne (fun w5 => ?_) (fun w5 => ?_)
                          · (exfalso; omega)
                          · conv => whnf
                            refine ifB_not ?_
                            conv => whnf
                            refine ifB_beqB (fun w6 => ?_) (fun w6 => ?_)
                            · conv => whnf
                              refine ⟨[], by kernel_rfl, ?_⟩
                              conv => whnf
                              refine ifB_beq (fun w7 => ?_) (fun w7 => ?_)
                              · conv => whnf
                                refine ifB_beq (fun w8 => ?_) (fun w8 => ?_)
                                · conv => whnf
                                  refine ⟨?_, nofun⟩
                                  (rfl)
                                · (exfalso; omega)
                              · (exfalso; omega)
                            · conv => whnf
                              refine ⟨?_, nofun⟩
                              (exact absurd hbe w6)
                · have hLl : 0 < L.length := List.length_pos_iff.2 hLe
                  have hwl : 0 < w.1.length := List.length_pos_iff.2 fun e => hLe (hL3.2 e)
                  have hto : (L.getD ((L.length : Int) - 1).toNat (0, 0)).1 = to := by rw [last_pos s (by omega), hL2, hs1]
                  refine sound (d := 2) tok2 mixed2 Tryd.func10 (by kernel_rfl) (by kernel_rfl) ?_
                  conv => whnf
                  refine .inl ⟨_, _, byX rfl (Sound1.pl (S13) rfl), ?_⟩
                  conv => whnf
                  refine ⟨[], by kernel_rfl, ?_⟩
                  conv => whnf
                  refine .inl ⟨_, _, byX rfl (Sound1.pl (h14) rfl), ?_⟩
                  conv => whnf
                  refine .inl ⟨_, _, byX rfl (Sound1.pl (h20) rfl), ?_⟩
                  conv => whnf
                  refine .inl ⟨_, _, byX rfl (Sound1.pl (h19) rfl), ?_⟩
                  conv => whnf
                  refine .inl ⟨_, _, byX rfl (Sound1.pl (h16) rfl), ?_⟩
                  conv => whnf
                  refine .inl ⟨_, _, byX rfl (Sound1.pl (h21) rfl), ?_⟩
                  conv => whnf
                  refine ifB_dec (fun w1 => ?_) (fun w1 => ?_)
                  · (exfalso; omega)
                  · conv => whnf
                    refine ⟨[], by kernel_rfl, ?_⟩
                    conv => whnf
                    refine .inl ⟨_, _, byX rfl (h18), ?_⟩
                    conv => whnf
                    refine .inl ⟨_, _, byX rfl (h17), ?_⟩
                    conv => whnf
                    refine ⟨[], by kernel_rfl, ?_⟩
                    conv => whnf
                    refine .inl ⟨_, _, byX rfl (h18), ?_⟩
                    conv => whnf
                    refine .inl ⟨_, _, byX rfl (Sound1.pl (h20) rfl), ?_⟩
                    conv => whnf
                    refine .inl ⟨_, _, byX rfl (h36), ?_⟩
                    conv => whnf
                    refine .inl ⟨_, _, byX rfl (h50), ?_⟩
                    conv => whnf
                    refine ifB_dec (fun w2 => ?_) (fun w2 => ?_)
                    · conv => whnf
                      refine ⟨inK64 (by omega) (by omega), ?_⟩
                      conv => whnf
                      refine ⟨⟨(by omega), (by omega)⟩, ?_⟩
                      conv => whnf
                      refine ifB_beq (fun w3 => ?_) (fun w3 => ?_)
                      · conv => whnf
                        refine ifB_beq (fun w4 => ?_) (fun w4 => ?_)
                        · conv => whnf
                          refine ifB_dec (fun w5 => ?_) (fun w5 => ?_)
                          · conv => whnf
                            refine ⟨?_, nofun⟩
                            (exact absurd (hyes w3 (by rw [← last_pos s w2]; exact w4)) (by omega))
                          · conv => whnf
                            refine ifB_dec (fun w6 => ?_) (fun w6 => ?_)
                            · (exfalso; omega)
                            · conv => whnf
                              refine ⟨[], by kernel_rfl, ?_⟩
                              conv => whnf
                              refine .inl ⟨_, _, byX rfl (h18), ?_⟩
                              conv => whnf
                              refine .inl ⟨_, _, byX rfl (Sound1.pl (h20) rfl), ?_⟩
                              conv => whnf
                              refine .inl ⟨_, _, byX rfl (h50w), ?_⟩
                              conv => whnf
                              refine ifB_bne (fun w7 => ?_) (fun w7 => ?_)
                              · (exfalso; omega)
                              · conv => whnf
                                refine ifB_not ?_
                                conv => whnf
                                refine ifB_beqB (fun w8 => ?_) (fun w8 => ?_)
                                · conv => whnf
                                  refine ⟨[], by kernel_rfl, ?_⟩
                                  conv => whnf
                                  refine ifB_beq (fun w9 => ?_) (fun w9 => ?_)
                                  · (exfalso; omega)
                                  · conv => whnf
                                    refine ifB_dec (fun w10 => ?_) (fun w10 => ?_)
                                    · conv => whnf
                                      refine ⟨inK64 (by omega) (by omega), ?_⟩
                                      conv => whnf
                                      refine ⟨⟨(by omega), (by omega)⟩, ?_⟩
                                      conv => whnf
                                      refine ⟨?_, nofun⟩
                                      (exact endb (beq_iff_eq.2 hto))
                                    · (exfalso; omega)
                                · conv => whnf
                                  refine ⟨?_, nofun⟩
                                  (exact absurd hbe w8)
                        · conv => whnf
                          refine ifB_dec (fun w5 => ?_) (fun w5 => ?_)
                          · (exfalso; omega)
                          · conv => whnf
                            refine ⟨[], by kernel_rfl, ?_⟩
                            conv => whnf
                            refine .inl ⟨_, _, byX rfl (h18), ?_⟩
                            conv => whnf
                            refine .inl ⟨_, _, byX rfl (Sound1.pl (h20) rfl), ?_⟩
                            conv => whnf
                            refine .inl ⟨_, _, byX rfl (h50w), ?_⟩
                            conv => whnf
                            refine ifB_bne (fun w6 => ?_) (fun w6 => ?_)
                            · (exfalso; omega)
                            · conv => whnf
                              refine ifB_not ?_
                              conv => whnf
                              refine ifB_beqB (fun w7 => ?_) (fun w7 => ?_)
                              · conv => whnf
                                refine ⟨[], by kernel_rfl, ?_⟩
                                conv => whnf
                                refine ifB_beq (fun w8 => ?_) (fun w8 => ?_)
                                · (exfalso; omega)
                                · conv => whnf
                                  refine ifB_dec (fun w9 => ?_) (fun w9 => ?_)
                                  · conv => whnf
                                    refine ⟨inK64 (by omega) (by omega), ?_⟩
                                    conv => whnf
                                    refine ⟨⟨(by omega), (by omega)⟩, ?_⟩
                                    conv => whnf
                                    refine ⟨?_, nofun⟩
                                    (exact endb (beq_iff_eq.2 hto))
                                  · (exfalso; omega)
                              · conv => whnf
                                refine ⟨?_, nofun⟩
                                (exact absurd hbe w7)
                      · conv => whnf
                        refine ifB_dec (fun w4 => ?_) (fun w4 => ?_)
                        · (exfalso; omega)
                        · conv => whnf
                          refine ⟨[], by kernel_rfl, ?_⟩
                          conv => whnf
                          refine .inl ⟨_, _, byX rfl (h18), ?_⟩
                          conv => whnf
                          refine .inl ⟨_, _, byX rfl (Sound1.pl (h20) rfl), ?_⟩
                          conv => whnf
                          refine .inl ⟨_, _, byX rfl (h50w), ?_⟩
                          conv => whnf
                          refine ifB_bne (fun w5 => ?_) (fun w5 => ?_)
                          · (exfalso; omega)
                          · conv => whnf
                            refine ifB_not ?_
                            conv => whnf
                            refine ifB_beqB (fun w6 => ?_) (fun w6 => ?_)
                            · conv => whnf
                              refine ⟨[], by kernel_rfl, ?_⟩
                              conv => whnf
                              refine ifB_beq (fun w7 => ?_) (fun w7 => ?_)
                              · (exfalso; omega)
                              · conv => whnf
                                refine ifB_dec (fun w8 => ?_) (fun w8 => ?_)
                                · conv => whnf
                                  refine ⟨inK64 (by omega) (by omega), ?_⟩
                                  conv => whnf
                                  refine ⟨⟨(by omega), (by omega)⟩, ?_⟩
                                  conv => whnf
                                  refine ⟨?_, nofun⟩
                                  (exact endb (beq_iff_eq.2 hto))
                                · (exfalso; omega)
                            · conv => whnf
                              refine ⟨?_, nofun⟩
                              (exact absurd hbe w6)
                    · conv => whnf
                      refine ifB_beq (fun w3 => ?_) (fun w3 => ?_)
                      · conv => whnf
                        refine ifB_beq (fun w4 => ?_) (fun w4 => ?_)
                        · conv => whnf
                          refine ifB_dec (fun w5 => ?_) (fun w5 => ?_)
                          · conv => whnf
                            refine ⟨?_, nofun⟩
                            (exact absurd (hyes w3 (by rw [← last_zero s w2]; exact w4)) (by omega))
                          · conv => whnf
                            refine ifB_dec (fun w6 => ?_) (fun w6 => ?_)
                            · (exfalso; omega)
                            · conv => whnf
                              refine ⟨[], by kernel_rfl, ?_⟩
                              conv => whnf
                              refine .inl ⟨_, _, byX rfl (h18), ?_⟩
                              conv => whnf
                              refine .inl ⟨_, _, byX rfl (Sound1.pl (h20) rfl), ?_⟩
                              conv => whnf
                              refine .inl ⟨_, _, byX rfl (h50w), ?_⟩
                              conv => whnf
                              refine ifB_bne (fun w7 => ?_) (fun w7 => ?_)
                              · (exfalso; omega)
                              · conv => whnf
                                refine ifB_not ?_
                                conv => whnf
                                refine ifB_beqB (fun w8 => ?_) (fun w8 => ?_)
                                · conv => whnf
                                  refine ⟨[], by kernel_rfl, ?_⟩
                                  conv => whnf
                                  refine ifB_beq (fun w9 => ?_) (fun w9 => ?_)
                                  · (exfalso; omega)
                                  · conv => whnf
                                    refine ifB_dec (fun w10 => ?_) (fun w10 => ?_)
                                    · conv => whnf
                                      refine ⟨inK64 (by omega) (by omega), ?_⟩
                                      conv => whnf
                                      refine ⟨⟨(by omega), (by omega)⟩, ?_⟩
                                      conv => whnf
                                      refine ⟨?_, nofun⟩
                                      (exact endb (beq_iff_eq.2 hto))
                                    · (exfalso; omega)
                                · conv => whnf
                                  refine ⟨?_, nofun⟩
                                  (exact absurd hbe w8)
                        · conv => whnf
                          refine ifB_dec (fun w5 => ?_) (fun w5 => ?_)
                          · (exfalso; omega)
                          · conv => whnf
                            refine ⟨[], by kernel_rfl, ?_⟩
                            conv => whnf
                            refine .inl ⟨_, _, byX rfl (h18), ?_⟩
                            conv => whnf
                            refine .inl ⟨_, _, byX rfl (Sound1.pl (h20) rfl), ?_⟩
                            conv => whnf
                            refine .inl ⟨_, _, byX rfl (h50w), ?_⟩
                            conv => whnf
                            refine ifB_bne (fun w6 => ?_) (fun w6 => ?_)
                            · (exfalso; omega)
                            · conv => whnf
                              refine ifB_not ?_
                              conv => whnf
                              refine ifB_beqB (fun w7 => ?_) (fun w7 => ?_)
                              · conv => whnf
                                refine ⟨[], by kernel_rfl, ?_⟩
                                conv => whnf
                                refine ifB_beq (fun w8 => ?_) (fun w8 => ?_)
                                · (exfalso; omega)
                                · conv => whnf
                                  refine ifB_dec (fun w9 => ?_) (fun w9 => ?_)
                                  · conv => whnf
                                    refine ⟨inK64 (by omega) (by omega), ?_⟩
                                    conv => whnf
                                    refine ⟨⟨(by omega), (by omega)⟩, ?_⟩
                                    conv => whnf
                                    refine ⟨?_, nofun⟩
                                    (exact endb (beq_iff_eq.2 hto))
                                  · (exfalso; omega)
                              · conv => whnf
                                refine ⟨?_, nofun⟩
                                (exact absurd hbe w7)
                      · conv => whnf
                        refine ifB_dec (fun w4 => ?_) (fun w4 => ?_)
                        · (exfalso; omega)
                        · conv => whnf
                          refine ⟨[], by kernel_rfl, ?_⟩
                          conv => whnf
                          refine .inl ⟨_, _, byX rfl (h18), ?_⟩
                          conv => whnf
                          refine .inl ⟨_, _, byX rfl (Sound1.pl (h20) rfl), ?_⟩
                          conv => whnf
                          refine .inl ⟨_, _, byX rfl (h50w), ?_⟩
                          conv => whnf
                          refine ifB_bne (fun w5 => ?_) (fun w5 => ?_)
                          · (exfalso; omega)
                          · conv => whnf
                            refine ifB_not ?_
                            conv => whnf
                            refine ifB_beqB (fun w6 => ?_) (fun w6 => ?_)
                            · conv => whnf
                              refine ⟨[], by kernel_rfl, ?_⟩
                              conv => whnf
                              refine ifB_beq (fun w7 => ?_) (fun w7 => ?_)
                              · (exfalso; omega)
                              · conv => whnf
                                refine ifB_dec (fun w8 => ?_) (fun w8 => ?_)
                                · conv => whnf
                                  refine ⟨inK64 (by omega) (by omega), ?_⟩
                                  conv => whnf
                                  refine ⟨⟨(by omega), (by omega)⟩, ?_⟩
                                  conv => whnf
                                  refine ⟨?_, nofun⟩
                                  (exact endb (beq_iff_eq.2 hto))
                                · (exfalso; omega)
                            · conv => whnf
                              refine ⟨?_, nofun⟩
                              (exact absurd hbe w6)
            · have hE : fastE p s to = 20 := by
                unfold fastE
                rw [if_neg (not_not_intro h0), if_neg (not_not_intro hx), if_neg hw]
              rw [hE, if_pos (by decide)] at h17
              have hRl := runP_len (f := noF) (cs := cs) hg hs
              generalize runP p s noF cs = R at h50 hRl
              refine sound (d := 2) tok2 mixed2 Tryd.func10 (by kernel_rfl) (by kernel_rfl) ?_
              conv => whnf
              refine .inl ⟨_, _, byX rfl (Sound1.pl (S13) rfl), ?_⟩
              conv => whnf
              refine ⟨[], by kernel_rfl, ?_⟩
              conv => whnf
              refine .inl ⟨_, _, byX rfl (Sound1.pl (h14) rfl), ?_⟩
              conv => whnf
              refine .inl ⟨_, _, byX rfl (Sound1.pl (h20) rfl), ?_⟩
              conv => whnf
              refine .inl ⟨_, _, byX rfl (Sound1.pl (h19) rfl), ?_⟩
              conv => whnf
              refine .inl ⟨_, _, byX rfl (Sound1.pl (h16) rfl), ?_⟩
              conv => whnf
              refine .inl ⟨_, _, byX rfl (Sound1.pl (h21) rfl), ?_⟩
              conv => whnf
              refine ifB_dec (fun w1 => ?_) (fun w1 => ?_)
              · (exfalso; omega)
              · conv => whnf
                refine ⟨[], by kernel_rfl, ?_⟩
                conv => whnf
                refine .inl ⟨_, _, byX rfl (h18), ?_⟩
                conv => whnf
                refine .inl ⟨_, _, byX rfl (h17), ?_⟩
                conv => whnf
                refine ⟨[], by kernel_rfl, ?_⟩
                conv => whnf
                refine .inl ⟨_, _, byX rfl (h18), ?_⟩
                conv => whnf
                refine .inl ⟨_, _, byX rfl (Sound1.pl (h20) rfl), ?_⟩
                conv => whnf
                refine .inl ⟨_, _, byX rfl (h36), ?_⟩
                conv => whnf
                refine .inl ⟨_, _, byX rfl (h50), ?_⟩
                conv => whnf
                refine ifB_dec (fun w2 => ?_) (fun w2 => ?_)
                · conv => whnf
                  refine ⟨inK64 (by omega) (by omega), ?_⟩
                  conv => whnf
                  refine ⟨⟨(by omega), (by omega)⟩, ?_⟩
                  conv => whnf
                  refine ⟨?_, nofun⟩
                  (rfl)
                · conv => whnf
                  refine ⟨?_, nofun⟩
                  (rfl)
          · refine sound (d := 2) tok2 mixed2 Tryd.func10 (by kernel_rfl) (by kernel_rfl) ?_
            conv => whnf
            refine .inl ⟨_, _, byX rfl (Sound1.pl (S13) rfl), ?_⟩
            conv => whnf
            refine ⟨[], by kernel_rfl, ?_⟩
            conv => whnf
            refine .inl ⟨_, _, byX rfl (Sound1.pl (h14) rfl), ?_⟩
            conv => whnf
            refine .inl ⟨_, _, byX rfl (Sound1.pl (h20) rfl), ?_⟩
            conv => whnf
            refine .inl ⟨_, _, byX rfl (Sound1.pl (h19) rfl), ?_⟩
            conv => whnf
            refine .inl ⟨_, _, byX rfl (Sound1.pl (h16) rfl), ?_⟩
            conv => whnf
            refine .inl ⟨_, _, byX rfl (Sound1.pl (h21) rfl), ?_⟩
            conv => whnf
            refine ifB_bne (fun w1 => ?_) (fun w1 => ?_)
            · conv => whnf
              refine ⟨?_, nofun⟩
              (rfl)
            · (exfalso; omega)
        | false =>
          rw [hlt] at h16
          refine sound (d := 2) tok2 mixed2 Tryd.func10 (by kernel_rfl) (by kernel_rfl) ?_
          conv => whnf
          refine .inl ⟨_, _, byX rfl (Sound1.pl (S13) rfl), ?_⟩
          conv => whnf
          refine ⟨[], by kernel_rfl, ?_⟩
          conv => whnf
          refine .inl ⟨_, _, byX rfl (Sound1.pl (h14) rfl), ?_⟩
          conv => whnf
          refine .inl ⟨_, _, byX rfl (Sound1.pl (h20) rfl), ?_⟩
          conv => whnf
          refine .inl ⟨_, _, byX rfl (Sound1.pl (h19) rfl), ?_⟩
          conv => whnf
          refine .inl ⟨_, _, byX rfl (Sound1.pl (h16) rfl), ?_⟩
          conv => whnf
          refine ⟨?_, nofun⟩
          (rfl)
      · refine sound (d := 2) tok2 mixed2 Tryd.func10 (by kernel_rfl) (by kernel_rfl) ?_
        conv => whnf
        refine .inl ⟨_, _, byX rfl (Sound1.pl (S13) rfl), ?_⟩
        conv => whnf
        refine ⟨[], by kernel_rfl, ?_⟩
        conv => whnf
        refine .inl ⟨_, _, byX rfl (Sound1.pl (h14) rfl), ?_⟩
        conv => whnf
        refine .inl ⟨_, _, byX rfl (Sound1.pl (h20) rfl), ?_⟩
        conv => whnf
        refine .inl ⟨_, _, byX rfl (Sound1.pl (h19) rfl), ?_⟩
        conv => whnf
        refine .inl ⟨_, _, byX rfl (Sound1.pl (h16) rfl), ?_⟩
        conv => whnf
        refine ifB_not ?_
        conv => whnf
        refine ifB_intro (fun w1 => ?_) (fun w1 => ?_)
        · conv => whnf
          refine .inl ⟨_, _, byX rfl (Sound1.pl (h21) rfl), ?_⟩
          conv => whnf
          refine ifB_bne (fun w2 => ?_) (fun w2 => ?_)
          · conv => whnf
            refine ⟨?_, nofun⟩
            (rfl)
          · conv => whnf
            refine ifB_dec (fun w3 => ?_) (fun w3 => ?_)
            · conv => whnf
              refine ⟨?_, nofun⟩
              (rfl)
            · (exfalso; omega)
        · conv => whnf
          refine ⟨?_, nofun⟩
          (rfl)
    · refine sound (d := 2) tok2 mixed2 Tryd.func10 (by kernel_rfl) (by kernel_rfl) ?_
      conv => whnf
      refine .inl ⟨_, _, byX rfl (Sound1.pl (S13) rfl), ?_⟩
      conv => whnf
      refine ⟨[], by kernel_rfl, ?_⟩
      conv => whnf
      refine .inl ⟨_, _, byX rfl (Sound1.pl (h14) rfl), ?_⟩
      conv => whnf
      refine .inl ⟨_, _, byX rfl (Sound1.pl (h20) rfl), ?_⟩
      conv => whnf
      refine .inl ⟨_, _, byX rfl (Sound1.pl (h19) rfl), ?_⟩
      conv => whnf
      refine ifB_bne (fun w1 => ?_) (fun w1 => ?_)
      · conv => whnf
        refine ⟨?_, nofun⟩
        (rfl)
      · (exfalso; omega)
end Go.Tr

/- The opening of a law: what an argument reads as, as abstract values, with its shape. Conditions: types of numbers, truth values, strings, slices, structs and arrays. -/
namespace Go.Tr
open Go Go.RowKit

def V2 (P : Program) (w : World) (q : Nat → Prop) : List AV → List Value → Prop
  | [], [] => True
  | x :: xs, v :: vs => (VT P w q x v ∧ v.oneCell' = true) ∧ V2 P w q xs vs
  | _, _ => False

def All2 {α β : Type} (p : α → β → Prop) : List α → List β → Prop
  | [], [] => True
  | x :: xs, y :: ys => p x y ∧ All2 p xs ys
  | _, _ => False

/-- The shape of what a type's cells read as. -/
def TyC (P : Program) : Nat → TypeId → List AV → Prop
  | 0, _, _ => True
  | m + 1, t, xs => match P.underlying t with
    | some .bool => ∃ b, xs = [.val (.bool b)]
    | some (.int k) => ∃ n, xs = [.val (.int k n)] ∧ inK k n
    | some .string => ∃ s : ByteArray, xs = [.val (.string s)] ∧ s.size ≤ 9223372036854775807
    | some (.slice e) => ∃ len f, xs = [.rslice (P.cellsOf e) len f] ∧ len ≤ 9223372036854775807 ∧ ∀ i, i < len → TyC P m e (f i)
    | some (.struct fs) => ∃ ps : List (List AV), xs = ps.flatten ∧ All2 (fun f p => TyC P m f.type p) fs.toList ps
    | some (.array n e) => ∃ ps : List (List AV), xs = ps.flatten ∧ ps.length = n ∧ ∀ p ∈ ps, TyC P m e p
    | _ => False

def layF (P : Program) (g : TypeId → Bool) : List Field → Nat → Nat → Bool
  | [], off, tot => Nat.beq off tot
  | f :: r, off, tot => Nat.beq f.offset off && g f.type && layF P g r (off + P.cellsOf f.type) tot

/-- Types that are covered, laid out part behind part. -/
def lay (P : Program) : Nat → TypeId → Bool
  | 0, _ => false
  | m + 1, t => match P.underlying t with
    | some .bool | some (.int _) | some .string => true
    | some (.slice e) => Nat.blt 0 (P.cellsOf e) && lay P m e
    | some (.struct fs) => layF P (lay P m) fs.toList 0 (P.cellsOf t)
    | some (.array n e) => Nat.beq (P.cellsOf t) (n * P.cellsOf e) && lay P m e
    | _ => false

section
variable {H : Type} {enc : TypeId × Value → H} {P : Program} {w : World} {spare : Nat → Bool} {held : Bool} {q : Nat → Prop}

theorem V2_len : ∀ {xs : List AV} {vs : List Value}, V2 P w q xs vs → xs.length = vs.length
  | [], [], _ => rfl
  | x :: xs, v :: vs, h => by simp [V2_len h.2]
  | [], _ :: _, h => h.elim
  | _ :: _, [], h => h.elim

theorem V2_append : ∀ {xs : List AV} {vs : List Value} {ys : List AV} {us : List Value}, V2 P w q xs vs → V2 P w q ys us → V2 P w q (xs ++ ys) (vs ++ us)
  | [], [], _, _, _, h => h
  | _ :: _, _ :: _, _, _, h, h' => ⟨h.1, V2_append h.2 h'⟩
  | [], _ :: _, _, _, h, _ => h.elim
  | _ :: _, [], _, _, h, _ => h.elim

theorem V2_get : ∀ {xs : List AV} {vs : List Value}, V2 P w q xs vs → ∀ (i : Nat) x, xs[i]? = some x → VT P w q x (vs.getD i undef) ∧ (vs.getD i undef).oneCell' = true
  | [], [], _, i, x, hx => by simp at hx
  | y :: ys, v :: vs, h, 0, x, hx => by
    simp at hx
    subst hx
    simpa using h.1
  | y :: ys, v :: vs, h, i + 1, x, hx => by
    have := V2_get h.2 i x (by simpa using hx)
    simpa using this
  | [], _ :: _, h, _, _, _ => h.elim
  | _ :: _, [], h, _, _, _ => h.elim

theorem mapM_cons_some {α β : Type} {f : α → Option β} {a : α} {l : List α} {r : List β} (h : (a :: l).mapM f = some r) : ∃ b bs, f a = some b ∧ l.mapM f = some bs ∧ r = b :: bs := by
  rw [List.mapM_cons] at h
  cases ha : f a with
  | none => simp [ha] at h
  | some b =>
    cases hl : l.mapM f with
    | none => simp [ha, hl] at h
    | some bs => simp [ha, hl] at h; exact ⟨b, bs, rfl, rfl, h.symm⟩

theorem mapM_get {α β : Type} {f : α → Option β} : ∀ {l : List α} {r : List β}, l.mapM f = some r → r.length = l.length ∧ ∀ (i : Nat) x, l[i]? = some x → ∃ y, f x = some y ∧ r[i]? = some y
  | [], r, h => by simp at h; subst h; exact ⟨rfl, fun i x hx => by simp at hx⟩
  | a :: l, r, h => by
    obtain ⟨b, bs, h1, h2, rfl⟩ := mapM_cons_some h
    obtain ⟨g1, g2⟩ := mapM_get h2
    refine ⟨by simp [g1], fun i x hx => ?_⟩
    cases i with
    | zero => simp at hx; subst hx; exact ⟨b, h1, rfl⟩
    | succ i => simpa using g2 i x (by simpa using hx)

theorem cells_some {a : Addr} {n : Nat} {cs : List Value} (h : w.cells? 0 a n = some cs) : cs.length = n ∧ ∀ j, j < n → w.cell? (a.add j) = some (cs.getD j undef) := by
  unfold World.cells? at h
  rw [if_pos (Nat.zero_le _)] at h
  obtain ⟨h1, h2⟩ := mapM_get h
  refine ⟨by simpa using h1, fun j hj => ?_⟩
  obtain ⟨y, h3, h4⟩ := h2 j j (by simp [hj])
  rw [h3, List.getD_eq_getElem?_getD, h4]
  rfl

theorem cell_spot {a : Addr} {v : Value} (h : w.cell? a = some v) : a.spot = none ∧ a.block < w.heap.size := by
  unfold World.cell? at h
  split at h
  · rename_i c t fr hb
    refine ⟨?_, ?_⟩
    · cases hs : a.spot with
      | none => rfl
      | some s => simp [hs] at h
    · exact (Array.getElem?_eq_some_iff.1 hb).1
  · cases h

theorem addr_add2 (blk off u j : Nat) : ((⟨blk, off, none⟩ : Addr).add u).add j = ⟨blk, off + (u + j), none⟩ := by
  unfold Addr.add
  by_cases h1 : u = 0
  · subst h1
    by_cases h2 : j = 0
    · subst h2; rfl
    · simp [h2]
  · by_cases h2 : j = 0
    · subst h2; simp [h1]
    · simp [h1, h2, Nat.add_assoc]

theorem fields_av {g : TypeId → List Value → Option (DataW H × List MemPlace)} {T : TypeId → List AV → Prop} {ly : TypeId → Bool}
    (ih : ∀ t, ly t = true → ∀ cs x, g t cs = some x → ∃ xs, V2 P w q xs cs ∧ T t xs) (cs : List Value) : ∀ (fs : List Field) (off : Nat) (r : List (DataW H × List MemPlace)), layF P ly fs off cs.length = true →
    (fs.mapM fun f => g f.type ((cs.drop f.offset).take (P.cellsOf f.type))) = some r → ∃ ps : List (List AV), V2 P w q ps.flatten (cs.drop off) ∧ All2 (fun f p => T f.type p) fs ps
  | [], off, r, hl, h => by
    have := Nat.eq_of_beq_eq_true hl
    subst this
    exact ⟨[], by simp [V2], trivial⟩
  | f :: fs, off, r, hl, h => by
    simp only [layF, Bool.and_eq_true] at hl
    obtain ⟨⟨h1, h2⟩, h3⟩ := hl
    have e := Nat.eq_of_beq_eq_true h1
    obtain ⟨b, bs, g1, g2, rfl⟩ := mapM_cons_some h
    obtain ⟨p, p1, p2⟩ := ih _ h2 _ _ g1
    obtain ⟨ps, r1, r2⟩ := fields_av ih cs fs _ _ h3 g2
    refine ⟨p :: ps, ?_, p2, r2⟩
    rw [List.flatten_cons]
    have : cs.drop off = (cs.drop f.offset).take (P.cellsOf f.type) ++ cs.drop (off + P.cellsOf f.type) := by
      rw [e, ← List.drop_drop]
      exact (List.take_append_drop _ _).symm
    rw [this]
    exact V2_append p1 r1

theorem items_av {g : List Value → Option (DataW H × List MemPlace)} {T : List AV → Prop} (ih : ∀ cs x, g cs = some x → ∃ xs, V2 P w q xs cs ∧ T xs) (cs : List Value) (s n : Nat) (hn : cs.length = n * s)
    (h : ∀ i, i < n → ∃ x, g ((cs.drop (i * s)).take s) = some x) : ∀ (k i : Nat), i + k = n → ∃ ps : List (List AV), V2 P w q ps.flatten (cs.drop (i * s)) ∧ ps.length = k ∧ ∀ p ∈ ps, T p
  | 0, i, hi => by
    have : i = n := by omega
    subst this
    refine ⟨[], ?_, rfl, nofun⟩
    rw [List.drop_eq_nil_of_le (by omega)]
    exact trivial
  | k + 1, i, hi => by
    obtain ⟨x, hx⟩ := h i (by omega)
    obtain ⟨p, p1, p2⟩ := ih _ _ hx
    obtain ⟨ps, r1, r2, r3⟩ := items_av ih cs s n hn h k (i + 1) (by omega)
    refine ⟨p :: ps, ?_, by simp [r2], fun y hy => ?_⟩
    · rw [List.flatten_cons]
      have : cs.drop (i * s) = (cs.drop (i * s)).take s ++ cs.drop ((i + 1) * s) := by
        rw [Nat.succ_mul, ← List.drop_drop]
        exact (List.take_append_drop _ _).symm
      rw [this]
      exact V2_append p1 r1
    · rcases List.mem_cons.1 hy with rfl | hy
      · exact p2
      · exact r3 y hy

theorem trod_av (hq : ∀ b, b < w.heap.size → q b) : ∀ (m : Nat) (t : TypeId), lay P m t = true → ∀ (fuel : Nat) (cs : List Value) (x : DataW H × List MemPlace), DataW.trod enc P w 0 spare held fuel t cs = some x → ∃ xs, V2 P w q xs cs ∧ TyC P m t xs
  | 0, t, hl, _, _, _, _ => by simp [lay] at hl
  | m + 1, t, hl, 0, cs, x, h => by simp [DataW.trod] at h
  | m + 1, t, hl, fuel + 1, cs, x, h => by
    unfold lay at hl
    unfold TyC
    unfold DataW.trod at h
    cases hu : P.underlying t with
    | none => simp [hu] at hl
    | some d =>
      simp only [hu] at hl h ⊢
      cases d with
      | bool =>
        split at h <;> first | (cases h; done) | (rename_i e; cases e; done) | skip
        cases h
        exact ⟨[.val (.bool _)], ⟨⟨.val _, rfl⟩, trivial⟩, _, rfl⟩
      | int k =>
        split at h <;> first | (cases h; done) | (rename_i e; cases e; done) | skip
        rename_i e
        cases e
        split at h
        · rename_i hk
          obtain ⟨rfl, hw⟩ := hk
          simp only [Lit.wf, Bool.and_eq_true, decide_eq_true_eq] at hw
          exact ⟨[.val (.int _ _)], ⟨⟨.val _, rfl⟩, trivial⟩, _, rfl, hw⟩
        · cases h
      | string =>
        split at h <;> first | (cases h; done) | (rename_i e; cases e; done) | skip
        split at h
        · rename_i hs
          exact ⟨[.val (.string _)], ⟨⟨.val _, rfl⟩, trivial⟩, _, rfl, hs⟩
        · cases h
      | slice e =>
        simp only [Bool.and_eq_true] at hl
        split at h <;> first | (cases h; done) | (rename_i e; cases e; done) | skip
        · exact ⟨[.rslice (P.cellsOf e) 0 fun _ => []], ⟨⟨.rslice0 _ _ _ _, rfl⟩, trivial⟩, _, _, rfl, by omega, fun i hi => absurd hi (Nat.not_lt_zero i)⟩
        · rename_i e0 a len cap e1
          cases e1
          split at h
          case isFalse => cases h
          rename_i hb
          have hes : 0 < P.cellsOf e := Nat.le_of_ble_eq_true hl.1
          cases hM : (List.range len).mapM fun i => (w.cells? 0 (a.add (i * P.cellsOf e)) (P.cellsOf e)).bind (DataW.trod enc P w 0 spare held fuel e) with
          | none => rw [hM] at h; cases h
          | some elems =>
            obtain ⟨_, g2⟩ := mapM_get hM
            have hx : ∀ i, ∃ xs : List AV, i < len → ∃ cs, (cs.length = P.cellsOf e ∧ ∀ j, j < P.cellsOf e → w.cell? ((a.add (i * P.cellsOf e)).add j) = some (cs.getD j undef)) ∧ V2 P w q xs cs ∧ TyC P m e xs := fun i => by
              by_cases hi : i < len
              · obtain ⟨y, y1, _⟩ := g2 i i (by simp [hi])
                cases hc : w.cells? 0 (a.add (i * P.cellsOf e)) (P.cellsOf e) with
                | none => rw [hc] at y1; cases y1
                | some cs1 =>
                  rw [hc] at y1
                  obtain ⟨xs, x1, x2⟩ := trod_av hq m e hl.2 _ _ _ y1
                  exact ⟨xs, fun _ => ⟨cs1, cells_some hc, x1, x2⟩⟩
              · exact ⟨[], fun h => absurd h hi⟩
            have hf := fun i => (Classical.choose_spec (hx i))
            generalize hF : (fun i => Classical.choose (hx i)) = F
            have hf : ∀ i, i < len → ∃ cs, (cs.length = P.cellsOf e ∧ ∀ j, j < P.cellsOf e → w.cell? ((a.add (i * P.cellsOf e)).add j) = some (cs.getD j undef)) ∧ V2 P w q (F i) cs ∧ TyC P m e (F i) := fun i hi => by
              have := Classical.choose_spec (hx i) hi
              rw [← hF]
              exact this
            refine ⟨[.rslice (P.cellsOf e) len F], ⟨⟨?_, rfl⟩, trivial⟩, len, F, rfl, ?_, fun i hi => ?_⟩
            · rcases Nat.eq_zero_or_pos len with rfl | hp
              · exact .rslice0 _ _ _ _
              · obtain ⟨cs0, c1, _, _⟩ := hf 0 hp
                have hc0 := c1.2 0 hes
                have e0 : ((a.add (0 * P.cellsOf e)).add 0) = a := by simp [Addr.add]
                rw [e0] at hc0
                obtain ⟨s1, s2⟩ := cell_spot hc0
                obtain ⟨blk, off, spot⟩ := a
                simp only at s1 s2
                subst s1
                have hG : ∀ i, ∃ cs : List Value, i < len → (cs.length = P.cellsOf e ∧ ∀ j, j < P.cellsOf e → w.cell? (((⟨blk, off, none⟩ : Addr).add (i * P.cellsOf e)).add j) = some (cs.getD j undef)) ∧ V2 P w q (F i) cs := fun i => by
                  by_cases hi : i < len
                  · obtain ⟨cs, c1, c2, _⟩ := hf i hi
                    exact ⟨cs, fun _ => ⟨c1, c2⟩⟩
                  · exact ⟨[], fun h => absurd h hi⟩
                refine .rslice _ _ _ blk off cap (fun i j => (Classical.choose (hG i)).getD j undef) hb.2.1 (hq _ s2) (fun i hi => ?_) (fun i j hi hj => ?_) (fun i j x hi hx => ?_)
                · obtain ⟨c1, c2⟩ := Classical.choose_spec (hG i) hi
                  rw [V2_len c2, c1.1]
                · obtain ⟨c1, c2⟩ := Classical.choose_spec (hG i) hi
                  have hc := c1.2 j hj
                  have ea : ((⟨blk, off, none⟩ : Addr).add (i * P.cellsOf e)).add j = ⟨blk, off + (i * P.cellsOf e + j), none⟩ := by
                    exact addr_add2 blk off _ j
                  rw [ea] at hc
                  refine ⟨hc, ?_⟩
                  have hlt : j < (F i).length := by rw [V2_len c2, c1.1]; exact hj
                  exact (V2_get c2 j _ (List.getElem?_eq_getElem hlt)).2
                · obtain ⟨c1, c2⟩ := Classical.choose_spec (hG i) hi
                  exact (V2_get c2 j x hx).1
            · have := hb.2.2
              unfold maxLen at this
              omega
            · obtain ⟨_, _, _, h3⟩ := hf i hi
              exact h3
      | struct fs =>
        replace h : (if cs.length = P.cellsOf t then (fs.toList.mapM fun f => DataW.trod enc P w 0 spare held fuel f.type ((cs.drop f.offset).take (P.cellsOf f.type))).map fun xs => (.agg (xs.map (·.1)), xs.flatMap (·.2)) else none) = some x := h
        split at h
        case isFalse => cases h
        rename_i hc
        cases hM : fs.toList.mapM fun f => DataW.trod enc P w 0 spare held fuel f.type ((cs.drop f.offset).take (P.cellsOf f.type)) with
        | none => rw [hM] at h; cases h
        | some r =>
          obtain ⟨ps, p1, p2⟩ := fields_av (T := TyC P m) (ly := lay P m) (fun t ht cs x hx => trod_av hq m t ht fuel cs x hx) cs fs.toList 0 r (by rw [hc]; exact hl) hM
          exact ⟨ps.flatten, by simpa using p1, ps, rfl, p2⟩
      | array n e =>
        simp only [Bool.and_eq_true] at hl
        replace h : (if cs.length = P.cellsOf t then ((List.range n).mapM fun i => DataW.trod enc P w 0 spare held fuel e ((cs.drop (i * P.cellsOf e)).take (P.cellsOf e))).map fun xs => (.agg (xs.map (·.1)), xs.flatMap (·.2)) else none) = some x := h
        split at h
        case isFalse => cases h
        rename_i hc
        cases hM : (List.range n).mapM fun i => DataW.trod enc P w 0 spare held fuel e ((cs.drop (i * P.cellsOf e)).take (P.cellsOf e)) with
        | none => rw [hM] at h; cases h
        | some r =>
          obtain ⟨_, g2⟩ := mapM_get hM
          obtain ⟨ps, p1, p2, p3⟩ := items_av (T := TyC P m e) (fun cs x hx => trod_av hq m e hl.2 fuel cs x hx) cs (P.cellsOf e) n (by rw [hc]; exact Nat.eq_of_beq_eq_true hl.1)
            (fun i hi => by obtain ⟨y, y1, _⟩ := g2 i i (by simp [hi]); exact ⟨y, y1⟩) n 0 (by omega)
          exact ⟨ps.flatten, by simpa using p1, ps, rfl, p2, p3⟩
      | _ => simp at hl

/-- The shape of an argument. -/
def TyA (P : Program) (m : Nat) (t : TypeId) (x : AV) : Prop :=
  match P.underlying t with
  | some (.struct _) | some (.array _ _) => ∃ xs, x = .agg xs ∧ TyC P m t xs
  | _ => TyC P m t [x]

/-- An argument of a law, as an abstract value. -/
theorem open_av {r : Reach} {b0 : Nat} {t : TypeId} {v : Value} {d : DataW H} {ps : List MemPlace} {m : Nat} (hl : lay P m t = true) (hq : ∀ b, b < w.heap.size → q b)
    (hv : Value.okWide P w r b0 t v) (hd : DataW.Trod enc P w 0 spare held t v d ps) : ∃ x, VT P w q x v ∧ TyA P m t x := by
  obtain ⟨fuel, hf⟩ := hd
  obtain ⟨xs, h1, h2⟩ := trod_av hq m t hl fuel _ _ hf
  have agg : ∀ cs, v = .agg cs → VT P w q (.agg xs) v := by
    rintro cs rfl
    have hlen := V2_len h1
    refine .agg xs cs (by rw [hlen]; simp [Value.cells]) (fun u hu => ?_) (fun i x hx => ?_)
    · obtain ⟨i, hi, rfl⟩ := List.getElem_of_mem hu
      have hx : i < xs.length := by rw [hlen]; simpa [Value.cells] using hi
      have := (V2_get h1 i _ (List.getElem?_eq_getElem hx)).2
      have hi' : i < cs.size := by simpa using hi
      simpa [Value.cells, List.getD_eq_getElem?_getD, hi'] using this
    · have := (V2_get h1 i x hx).1
      simpa [Value.cells, List.getD_eq_getElem?_getD, Array.getD_eq_getD_getElem?] using this
  have one : ∀ u, v.cells.toList = [u] → v = u → ∃ x, VT P w q x v ∧ TyC P m t [x] := by
    rintro u e rfl
    rw [e] at h1
    match xs, h1, h2 with
    | [x], h1, h2 => exact ⟨x, h1.1.1, h2⟩
  unfold TyA
  unfold Value.okWide at hv
  split
  · rename_i fs hu
    simp only [hu] at hv
    obtain ⟨cs, e, _, _⟩ := hv
    exact ⟨_, agg cs e, xs, rfl, h2⟩
  · rename_i n e hu
    simp only [hu] at hv
    obtain ⟨cs, e, _, _⟩ := hv
    exact ⟨_, agg cs e, xs, rfl, h2⟩
  · rename_i n1 n2
    have hc : Cell.okWide P w r b0 t v := by
      split at hv
      · rename_i hu; exact absurd hu (n1 _)
      · rename_i hu; exact absurd hu (n2 _ _)
      · exact hv
    cases v with
    | agg cs =>
      simp only [Cell.okWide] at hc
      split at hc <;> first | (rename_i e _; cases e; done) | (rename_i e; cases e; done) | (simp [Cell.ok] at hc)
    | tuple cs =>
      simp only [Cell.okWide] at hc
      split at hc <;> first | (rename_i e _; cases e; done) | (rename_i e; cases e; done) | (simp [Cell.ok] at hc)
    | _ => exact one _ rfl rfl
end
end Go.Tr

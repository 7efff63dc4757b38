/- The law SequenceNoFaster returns true. Conditions: none. -/
import Derived.Test.YtflgajlngiojbaaDoorTr10
set_option linter.unusedSectionVars false
set_option linter.unnecessarySimpa false
set_option linter.unusedVariables false
set_option linter.unusedSimpArgs false

namespace Go.Tr
open Go Go.Proofs
set_option maxRecDepth 20000
set_option maxHeartbeats 8000000

/-- Commands, where they lead to, and how long they take. -/
inductive Leads (p : Pln) (s0 : S2) : List Int → S2 → Int → Prop where
  | nil : Leads p s0 [] s0 0
  | snoc {cs : List Int} {s : S2} {t c : Int} {r : List S2 × Int} (h : Leads p s0 cs s t) (hc : hasI (stp p s).exits c = true) (hr : commandF p noF s c = some r) : Leads p s0 (cs ++ [c]) (lastOf r.1) (t + r.2)
theorem Leads.ok {p : Pln} (hg : Good p) {s0 : S2} (hs : OkS p s0) (hw : (stp p s0).wait = 0) {cs : List Int} {s : S2} {t : Int} (h : Leads p s0 cs s t) : OkS p s ∧ (stp p s).wait = 0 := by
  induction h with
  | nil => exact ⟨hs, hw⟩
  | snoc _ hc hr ih =>
    have := command_ok hg ih.1 (.inr (exit_ok hg ih.1 ih.2 hc)) hr
    exact ⟨this.ok, this.steady⟩
abbrev lastOr (s0 : S2) (L : List S2) : S2 := L.getLastD s0
theorem lastOr_app {s0 : S2} {L m : List S2} (h : m ≠ []) : lastOr s0 (L ++ m) = lastOf m := by
  cases m with
  | nil => exact absurd rfl h
  | cons a r => simp [lastOr, lastOf, List.getLastD_eq_getLast?, List.getLast?_append, List.getLast?_cons]
theorem leads_of_run {p : Pln} (hg : Good p) {s0 : S2} (hs : OkS p s0) (hw : (stp p s0).wait = 0) : ∀ (cs pre : List Int) (s : S2) (L : List S2) (t : Int) (L' : List S2) (t' : Int), Leads p s0 pre s t → lastOr s0 L = s → runG p noF s cs L t = (0, L', t') → Leads p s0 (pre ++ cs) (lastOr s0 L') t'
  | [], pre, s, L, t, L', t', h1, h2, h3 => by
    unfold runG at h3
    injection h3 with _ h3
    injection h3 with h3 h4
    rw [← h3, ← h4, h2, List.append_nil]; exact h1
  | c :: cs, pre, s, L, t, L', t', h1, h2, h3 => by
    unfold runG at h3
    split at h3
    · rename_i hc
      have hok := h1.ok hg hs hw
      cases hr : commandF p noF s c with
      | none => rw [hr] at h3; injection h3 with h3; cases h3
      | some r =>
        rw [hr] at h3
        have hcm := command_ok hg hok.1 (.inr (exit_ok hg hok.1 hok.2 hc)) hr
        have := leads_of_run hg hs hw cs (pre ++ [c]) (lastOf r.1) (L ++ r.1) (t + r.2) L' t' (.snoc h1 hc hr) (lastOr_app hcm.ne) h3
        rwa [List.append_assoc] at this
    · injection h3 with h3; cases h3
theorem run_of_leads {p : Pln} (hg : Good p) {s0 : S2} (hs : OkS p s0) (hw : (stp p s0).wait = 0) {cs : List Int} {s : S2} {t : Int} (h : Leads p s0 cs s t) : ∃ L, (∀ rest, runG p noF s0 (cs ++ rest) [] 0 = runG p noF s rest L t) ∧ lastOr s0 L = s ∧ (L = [] ↔ cs = []) := by
  induction h with
  | nil => exact ⟨[], fun _ => rfl, rfl, ⟨fun _ => rfl, fun _ => rfl⟩⟩
  | @snoc cs s t c r h hc hr ih =>
    obtain ⟨L, h1, h2, h3⟩ := ih
    have hok := h.ok hg hs hw
    have hcm := command_ok hg hok.1 (.inr (exit_ok hg hok.1 hok.2 hc)) hr
    refine ⟨L ++ r.1, fun rest => ?_, lastOr_app hcm.ne, ⟨fun e => absurd (List.append_eq_nil_iff.1 e).2 hcm.ne, fun e => by simp at e⟩⟩
    rw [List.append_assoc, h1]
    show runG p noF s (c :: rest) L t = _
    conv => lhs; unfold runG
    rw [if_pos hc, hr]
theorem leads_of_layer {p : Pln} {s0 : S2} : ∀ (k : Nat) (e : Ent), e ∈ layer p s0 k → Leads p s0 e.2.1 e.1 e.2.2
  | 0, e, he => by
    rw [show e = (s0, ([], 0)) from List.mem_singleton.1 he]
    exact .nil
  | k + 1, e, he => by
    obtain ⟨x, hx, he⟩ := List.mem_flatMap.1 he
    obtain ⟨c, hc, he⟩ := List.mem_filterMap.1 he
    have ih := leads_of_layer k x (norm_mem hx)
    unfold stepWay at he
    cases hr : commandF p noF x.1 c with
    | none => rw [hr] at he; cases he
    | some r =>
      rw [hr] at he
      cases he
      exact .snoc ih (hasI_mem.2 hc) hr
theorem min_time {l : List Way} {w v : Way} (h : minL l = some w) (hv : v ∈ l) : w.2 ≤ v.2 := by
  have := (minL_some.1 h).2 v hv
  rcases wlt_total w v with h1 | h1 | h1
  · exact wlt_time h1
  · rw [h1]; exact Int.le_refl _
  · rw [this] at h1; cases h1
theorem min_some {l : List Way} {v : Way} (hv : v ∈ l) : ∃ w, minL l = some w ∧ w.2 ≤ v.2 := by
  cases h : minL l with
  | none => rw [minL_none] at h; rw [h] at hv; cases hv
  | some w => exact ⟨w, rfl, min_time h hv⟩
theorem layer_of_leads {p : Pln} {s0 : S2} {cs : List Int} {s : S2} {t : Int} (h : Leads p s0 cs s t) : ∃ w, least (layer p s0 cs.length) s = some w ∧ w.2 ≤ t := by
  induction h with
  | nil => exact min_some (mem_waysTo.2 (List.mem_singleton.2 rfl))
  | @snoc cs s t c r h hc hr ih =>
    obtain ⟨w, h1, h2⟩ := ih
    rw [List.length_append]
    have hm : (lastOf r.1, (w.1 ++ [c], w.2 + r.2)) ∈ layer p s0 (cs.length + 1) := by
      refine List.mem_flatMap.2 ⟨(s, w), mem_norm.2 h1, List.mem_filterMap.2 ⟨c, hasI_mem.1 hc, ?_⟩⟩
      unfold stepWay
      rw [hr]
    obtain ⟨v, h3, h4⟩ := min_some (mem_waysTo.2 hm)
    exact ⟨v, h3, Int.le_trans h4 (by show w.2 + r.2 ≤ _; omega)⟩
theorem here_of_leads {p : Pln} {s0 : S2} {to : Int} {cs : List Int} {s : S2} {t : Int} (h : Leads p s0 cs s t) (hs : s.1 = to) : ∃ w, hereW p s0 to cs.length = some w ∧ w.2 ≤ t := by
  obtain ⟨w, h1, h2⟩ := layer_of_leads h
  obtain ⟨v, h3, h4⟩ := min_some (l := toW to (norm (layer p s0 cs.length))) (v := w) (List.mem_map.2 ⟨(s, w), List.mem_filter.2 ⟨mem_norm.2 h1, by simp [hs]⟩, rfl⟩)
  exact ⟨v, h3, Int.le_trans h4 h2⟩
theorem best_le {p : Pln} {s0 : S2} {to : Int} {k : Nat} {h : Way} (hh : hereW p s0 to k = some h) : ∀ n, k < n → ∃ b, bestW p s0 to n = some b ∧ b.2 ≤ h.2
  | 0, hk => by omega
  | n + 1, hk => by
    show ∃ b, upB (bestW p s0 to n) (hereW p s0 to n) = some b ∧ _
    rcases Nat.lt_succ_iff_lt_or_eq.1 hk with hk | hk
    · obtain ⟨b, h1, h2⟩ := best_le hh n hk
      rw [h1]
      cases h3 : hereW p s0 to n with
      | none => exact ⟨b, rfl, h2⟩
      | some x =>
        show ∃ b_1, (if x.2 < b.2 then some x else some b) = some b_1 ∧ _
        split
        · rename_i h4; exact ⟨x, rfl, by omega⟩
        · exact ⟨b, rfl, h2⟩
    · rw [← hk, hh]
      cases h1 : bestW p s0 to k with
      | none => exact ⟨h, rfl, Int.le_refl _⟩
      | some b =>
        show ∃ b_1, (if h.2 < b.2 then some h else some b) = some b_1 ∧ _
        split
        · exact ⟨h, rfl, Int.le_refl _⟩
        · rename_i h4; exact ⟨b, rfl, by omega⟩
theorem best_here {p : Pln} {s0 : S2} {to : Int} : ∀ n b, bestW p s0 to n = some b → ∃ k, k < n ∧ hereW p s0 to k = some b
  | 0, b, h => by cases h
  | n + 1, b, h => by
    have h : upB (bestW p s0 to n) (hereW p s0 to n) = some b := h
    have key : bestW p s0 to n = some b ∨ hereW p s0 to n = some b := by
      cases h1 : hereW p s0 to n with
      | none => rw [h1] at h; exact .inl h
      | some x =>
        rw [h1] at h
        cases h2 : bestW p s0 to n with
        | none => rw [h2] at h; exact .inr h
        | some y =>
          rw [h2] at h
          have h : (if x.2 < y.2 then some x else some y) = some b := h
          split at h
          · exact .inr h
          · exact .inl h
    rcases key with h1 | h1
    · obtain ⟨k, h2, h3⟩ := best_here n b h1
      exact ⟨k, by omega, h3⟩
    · exact ⟨n, by omega, h1⟩
theorem best_leads {p : Pln} (hg : Good p) {s0 : S2} (hs : OkS p s0) (hw : (stp p s0).wait = 0) {to : Int} {n : Nat} {b : Way} (h : bestW p s0 to n = some b) : ∃ s, s.1 = to ∧ Leads p s0 b.1 s b.2 ∧ b.1.length < n := by
  obtain ⟨k, h1, h2⟩ := best_here n b h
  obtain ⟨e, h3, h4⟩ := List.mem_map.1 (minL_some.1 h2).1
  obtain ⟨h5, h6⟩ := List.mem_filter.1 h3
  have h7 := leads_of_layer k e (norm_mem h5)
  have h8 := (layer_ok hg hs hw k e (norm_mem h5)).2.2.1
  rw [h4] at h7 h8
  exact ⟨e.1, by simpa using h6, h7, by omega⟩
theorem S16 (p : Pln) (hl : p.sig.length ≤ 9223372036854775807 ∧ p.steps.length ≤ 9223372036854775807) : SP 16 [planA p] (vb (decide (p.sig.length ≤ 3) && decide (p.steps.length ≤ 6))) false := by
  refine sound (d := 2) tok2 mixed2 Tryd.func16 (by kernel_rfl) (by kernel_rfl) ?_
  conv => whnf
  refine ifB_dec (fun w1 => ?_) (fun w1 => ?_)
  · conv => whnf
    refine ⟨?_, nofun⟩
    refine endb ?_
    rw [decide_eq_true (show p.sig.length ≤ 3 by omega), Bool.true_and]
    exact decide_eq_decide.2 (by omega)
  · conv => whnf
    refine ⟨?_, nofun⟩
    refine endb ?_
    rw [decide_eq_false (show ¬ p.sig.length ≤ 3 by omega), Bool.false_and]
theorem last_pos (s0 : S2) {L : List S2} (h : (L.length : Int) > 0) : L.getD ((L.length : Int) - 1).toNat (0, 0) = lastOr s0 L := by
  cases L with
  | nil => exact absurd h (by decide)
  | cons a r =>
    rw [show (((a :: r).length : Int) - 1).toNat = r.length by simp]
    simp [lastOr, List.getD_eq_getElem?_getD, List.getLastD_eq_getLast?, List.getLast?_eq_getElem?]
theorem last_zero (s0 : S2) {L : List S2} (h : ¬ (L.length : Int) > 0) : s0 = lastOr s0 L := by
  cases L with
  | nil => rfl
  | cons a r => exact absurd (show ((a :: r).length : Int) > 0 by rw [List.length_cons]; omega) h
theorem run_leads {p : Pln} (hg : Good p) {s : S2} (hs : OkS p s) (hw : (stp p s).wait = 0) (h0 : openE p s noF = 0) {cs : List Int} (hc : cs.length ≤ 10) (h : (runP p s noF cs).1 = 0) : Leads p s cs (lastOr s (runP p s noF cs).2.1) (runP p s noF cs).2.2 := by
  have e : runP p s noF cs = runG p noF s cs [] 0 := by
    unfold runP
    rw [if_neg (not_not_intro h0), if_neg (not_not_intro hw), if_neg (by omega)]
  rw [e] at h ⊢
  exact leads_of_run hg hs hw cs [] s [] 0 _ _ .nil rfl (Prod.ext h rfl)
theorem leads_run {p : Pln} (hg : Good p) {s s' : S2} {t : Int} (hs : OkS p s) (hw : (stp p s).wait = 0) (h0 : openE p s noF = 0) {cs : List Int} (hc : cs.length ≤ 10) (h : Leads p s cs s' t) : ∃ L, runP p s noF cs = (0, L, t) ∧ lastOr s L = s' ∧ (L = [] ↔ cs = []) := by
  obtain ⟨L, h1, h2, h3⟩ := run_of_leads hg hs hw h
  refine ⟨L, ?_, h2, h3⟩
  have := h1 []
  rw [List.append_nil] at this
  unfold runP
  rw [if_neg (not_not_intro h0), if_neg (not_not_intro hw), if_neg (by omega), this]
  unfold runG; rfl
theorem S10 (p : Pln) (hl : p.sig.length ≤ 9223372036854775807 ∧ p.steps.length ≤ 9223372036854775807) (s : S2) (cs : List Int) (to : Int) (hcs : cs.length ≤ 9223372036854775807) : SP 10 [planA p, stA s, .agg [ints cs, i64 to]] (vb true) false := by
  have h14 := S14 p hl
  have h16 := S16 p hl
  have h20 := S20
  cases hf : fewB p with
  | false =>
    rw [hf] at h14
    refine sound (d := 2) tok2 mixed2 Tryd.func10 (by kernel_rfl) (by kernel_rfl) ?_
    conv => whnf
    refine .inl ⟨_, _, byX rfl (Sound1.pl (S13) rfl), ?_⟩
    conv => whnf
    refine ⟨[], by kernel_rfl, ?_⟩
    conv => whnf
    refine .inl ⟨_, _, byX rfl (Sound1.pl (h14) rfl), ?_⟩
    conv => whnf
    refine ⟨?_, nofun⟩
    (rfl)
  | true =>
    rw [hf] at h14
    have hp := FewP.of hf
    have h19 := S19 p hp s noF
    by_cases h0 : openE p s noF = 0
    · obtain ⟨hg, hs, hff⟩ := open_ok hp h0
      rw [h0] at h19
      have hm := hg.m
      have h21 := S21 p (by omega) to
      have h18 := S18 p hp
      have h17 := S17 p hp s to
      by_cases hc : cs.length ≤ 10
      · have h36 := S36f cs (by omega)
        have h50 := S50 p hp s noF cs (by omega)
        cases hlt : decide (p.sig.length ≤ 3) && decide (p.steps.length ≤ 6) with
        | true =>
          rw [hlt] at h16
          by_cases hx : idxE p.steps.length to = 0
          · rw [hx] at h21
            unfold runT at h50
            unfold fastR at h17
            by_cases hw : (stp p s).wait = 0 ∧ (p.steps.getD to.toNat stp0).wait = 0
            · have hE : fastE p s to = 0 := by
                unfold fastE
                rw [if_neg (not_not_intro h0), if_neg (not_not_intro hx), if_pos hw]
              rw [hE, if_neg (not_not_intro rfl)] at h17
              have hRl := runP_len (f := noF) (cs := cs) hg hs
              have hRL := fun h => run_leads hg hs hw.1 h0 hc h
              cases hb : bestW p s to 11 with
              | none =>
                rw [hb] at h17
                generalize runP p s noF cs = R at h50 hRl hRL
                have hno : R.1 = 0 → ¬ (lastOr s R.2.1).1 = to := fun h1 h2 => by
                  obtain ⟨v, h3, _⟩ := here_of_leads (hRL h1) h2
                  obtain ⟨b, h4, _⟩ := best_le h3 11 (by omega)
                  rw [hb] at h4; cases h4
                refine sound (d := 2) tok2 mixed2 Tryd.func10 (by kernel_rfl) (by kernel_rfl) ?_
                conv => whnf
                refine .inl ⟨_, _, byX rfl (Sound1.pl (S13) rfl), ?_⟩
                conv => whnf
                refine ⟨[], by kernel_rfl, ?_⟩
                conv => whnf
                refine .inl ⟨_, _, byX rfl (Sound1.pl (h14) rfl), ?_⟩
                conv => whnf
                refine .inl ⟨_, _, byX rfl (Sound1.pl (h20) rfl), ?_⟩
                conv => whnf
                refine .inl ⟨_, _, byX rfl (Sound1.pl (h19) rfl), ?_⟩
                conv => whnf
                refine .inl ⟨_, _, byX rfl (Sound1.pl (h16) rfl), ?_⟩
                conv => whnf
                refine .inl ⟨_, _, byX rfl (Sound1.pl (h21) rfl), ?_⟩
                conv => whnf
                refine ifB_dec (fun w1 => ?_) (fun w1 => ?_)
                · (exfalso; omega)
                · conv => whnf
                  refine ⟨[], by kernel_rfl, ?_⟩
                  conv => whnf
                  refine .inl ⟨_, _, byX rfl (h18), ?_⟩
                  conv => whnf
                  refine .inl ⟨_, _, byX rfl (h17), ?_⟩
                  conv => whnf
                  refine ⟨[], by kernel_rfl, ?_⟩
                  conv => whnf
                  refine .inl ⟨_, _, byX rfl (h18), ?_⟩
                  conv => whnf
                  refine .inl ⟨_, _, byX rfl (Sound1.pl (h20) rfl), ?_⟩
                  conv => whnf
                  refine .inl ⟨_, _, byX rfl (h36), ?_⟩
                  conv => whnf
                  refine .inl ⟨_, _, byX rfl (h50), ?_⟩
                  conv => whnf
                  refine ifB_dec (fun w2 => ?_) (fun w2 => ?_)
                  · conv => whnf
                    refine ⟨inK64 (by omega) (by omega), ?_⟩
                    conv => whnf
                    refine ⟨⟨(by omega), (by omega)⟩, ?_⟩
                    conv => whnf
                    refine ifB_bne (fun w3 => ?_) (fun w3 => ?_)
                    · conv => whnf
                      refine ⟨?_, nofun⟩
                      (rfl)
                    · conv => whnf
                      refine ⟨?_, nofun⟩
                      (exact endb (bne_iff_ne.2 fun h => hno w3 (by rw [← last_pos s w2]; exact h)))
                  · conv => whnf
                    refine ifB_bne (fun w3 => ?_) (fun w3 => ?_)
                    · conv => whnf
                      refine ⟨?_, nofun⟩
                      (rfl)
                    · conv => whnf
                      refine ⟨?_, nofun⟩
                      (exact endb (bne_iff_ne.2 fun h => hno w3 (by rw [← last_zero s w2]; exact h)))
              | some w =>
                rw [hb] at h17
                obtain ⟨s', hs1, hs2, hs3⟩ := best_leads hg hs hw.1 hb
                obtain ⟨L, hL1, hL2, hL3⟩ := leads_run hg hs hw.1 h0 (by omega) hs2
                have h36w := S36f w.1 (by omega)
                have h50w := S50 p hp s noF w.1 (by omega)
                have hLb := runP_len (f := noF) (cs := w.1) hg hs
                rw [hL1] at h50w hLb
                unfold runT at h50w
                have hLb : L.length ≤ 10000 := hLb
                have h50w : SP 50 [planA p, stA s, rnA noF w.1] (.tuple [sts L, i64 w.2, i64 0]) false := h50w
                have hbe : ((L.length : Int) == 0) = ((w.1.length : Int) == 0) := by
                  by_cases hLe : L = []
                  · rw [hL3.1 hLe, hLe]; rfl
                  · have h1 : 0 < L.length := List.length_pos_iff.2 hLe
                    have h2 : 0 < w.1.length := List.length_pos_iff.2 fun e => hLe (hL3.2 e)
                    rw [beq_eq_false_iff_ne.2 (by omega), beq_eq_false_iff_ne.2 (by omega)]
                generalize runP p s noF cs = R at h50 hRl hRL
                have hyes : R.1 = 0 → (lastOr s R.2.1).1 = to → w.2 ≤ R.2.2 := fun h1 h2 => by
                  obtain ⟨v, h3, h5⟩ := here_of_leads (hRL h1) h2
                  obtain ⟨b, h4, h6⟩ := best_le h3 11 (by omega)
                  rw [hb] at h4; cases h4; omega
                by_cases hLe : L = []
                · have hLl : L.length = 0 := by rw [hLe]; rfl
                  have hwl : w.1.length = 0 := by rw [hL3.1 hLe]; rfl
                  have hto : s.1 = to := by rw [← hs1, ← hL2, hLe]; rfl
                  refine sound (d := 2) tok2 mixed2 Tryd.func10 (by kernel_rfl) (by kernel_rfl) ?_
                  conv => whnf
                  refine .inl ⟨_, _, byX rfl (Sound1.pl (S13) rfl), ?_⟩
                  conv => whnf
                  refine ⟨[], by kernel_rfl, ?_⟩
                  conv => whnf
                  refine .inl ⟨_, _, byX rfl (Sound1.pl (h14) rfl), ?_⟩
                  conv => whnf
                  refine .inl ⟨_, _, byX rfl (Sound1.pl (h20) rfl), ?_⟩
                  conv => whnf
                  refine .inl ⟨_, _, byX rfl (Sound1.pl (h19) rfl), ?_⟩
                  conv => whnf
                  refine .inl ⟨_, _, byX rfl (Sound1.pl (h16) rfl), ?_⟩
                  conv => whnf
                  refine .inl ⟨_, _, byX rfl (Sound1.pl (h21) rfl), ?_⟩
                  conv => whnf
                  refine ifB_dec (fun w1 => ?_) (fun w1 => ?_)
                  · (exfalso; omega)
                  · conv => whnf
                    refine ⟨[], by kernel_rfl, ?_⟩
                    conv => whnf
                    refine .inl ⟨_, _, byX rfl (h18), ?_⟩
                    conv => whnf
                    refine .inl ⟨_, _, byX rfl (h17), ?_⟩
                    conv => whnf
                    refine ⟨[], by kernel_rfl, ?_⟩
                    conv => whnf
                    refine .inl ⟨_, _, byX rfl (h18), ?_⟩
                    conv => whnf
                    refine .inl ⟨_, _, byX rfl (Sound1.pl (h20) rfl), ?_⟩
                    conv => whnf
                    refine .inl ⟨_, _, byX rfl (h36), ?_⟩
                    conv => whnf
                    refine .inl ⟨_, _, byX rfl (h50), ?_⟩
                    conv => whnf
                    refine ifB_dec (fun w2 => ?_) (fun w2 => ?_)
                    · conv => whnf
                      refine ⟨inK64 (by omega) (by omega), ?_⟩
                      conv => whnf
                      refine ⟨⟨(by omega), (by omega)⟩, ?_⟩
                      conv => whnf
                      refine ifB_beq (fun w3 => ?_) (fun w3 => ?_)
                      · conv => whnf
                        refine ifB_beq (fun w4 => ?_) (fun w4 => ?_)
                        · conv => whnf
                          refine ifB_dec (fun w5 => ?_) (fun w5 => ?_)
                          · conv => whnf
                            refine ⟨?_, nofun⟩
                            (exact absurd (hyes w3 (by rw [← last_pos s w2]; exact w4)) (by omega))
                          · conv => whnf
                            refine ifB_dec (fun w6 => ?_) (fun w6 => ?_)
                            · (exfalso; omega)
                            · conv => whnf
                              refine ⟨[], by kernel_rfl, ?_⟩
                              conv => whnf
                              refine .inl ⟨_, _, byX rfl (h18), ?_⟩
                              conv => whnf
                              refine .inl ⟨_, _, byX rfl (Sound1.pl (h20) rfl), ?_⟩
                              conv => whnf
                              refine .inl ⟨_, _, byX rfl (h50w), ?_⟩
                              conv => whnf
                              refine ifB_bne (fun w7 => ?_) (fun w7 => ?_)
                              · (exfalso; omega)
                              · conv => whnf
                                refine ifB_not ?_
                                conv => whnf
                                refine ifB_beqB (fun w8 => ?_) (fun w8 => ?_)
                                · conv => whnf
                                  refine ⟨[], by kernel_rfl, ?_⟩
                                  conv => whnf
                                  refine ifB_beq (fun w9 => ?_) (fun w9 => ?_)
                                  · conv => whnf
                                    refine ifB_beq (fun w10 => ?_) (fun w10 => ?_)
                                    · conv => whnf
                                      refine ⟨?_, nofun⟩
                                      (rfl)
                                    · (exfalso; omega)
                                  · (exfalso; omega)
                                · conv => whnf
                                  refine ⟨?_, nofun⟩
                                  (exact absurd hbe w8)
                        · conv => whnf
                          refine ifB_dec (fun w5 => ?_) (fun w5 => ?_)
                          · (exfalso; omega)
                          · conv => whnf
                            refine ⟨[], by kernel_rfl, ?_⟩
                            conv => whnf
                            refine .inl ⟨_, _, byX rfl (h18), ?_⟩
                            conv => whnf
                            refine .inl ⟨_, _, byX rfl (Sound1.pl (h20) rfl), ?_⟩
                            conv => whnf
                            refine .inl ⟨_, _, byX rfl (h50w), ?_⟩
                            conv => whnf
                            refine ifB_bne (fun w6 => ?_) (fun w6 => ?_)
                            · (exfalso; omega)
                            · conv => whnf
                              refine ifB_not ?_
                              conv => whnf
                              refine ifB_beqB (fun w7 => ?_) (fun w7 => ?_)
                              · conv => whnf
                                refine ⟨[], by kernel_rfl, ?_⟩
                                conv => whnf
                                refine ifB_beq (fun w8 => ?_) (fun w8 => ?_)
                                · conv => whnf
                                  refine ifB_beq (fun w9 => ?_) (fun w9 => ?_)
                                  · conv => whnf
                                    refine ⟨?_, nofun⟩
                                    (rfl)
                                  · (exfalso; omega)
                                · (exfalso; omega)
                              · conv => whnf
                                refine ⟨?_, nofun⟩
                                (exact absurd hbe w7)
                      · conv => whnf
                        refine ifB_dec (fun w4 => ?_) (fun w4 => ?_)
                        · (exfalso; omega)
                        · conv => whnf
                          refine ⟨[], by kernel_rfl, ?_⟩
                          conv => whnf
                          refine .inl ⟨_, _, byX rfl (h18), ?_⟩
                          conv => whnf
                          refine .inl ⟨_, _, byX rfl (Sound1.pl (h20) rfl), ?_⟩
                          conv => whnf
                          refine .inl ⟨_, _, byX rfl (h50w), ?_⟩
                          conv => whnf
                          refine ifB_bne (fun w5 => ?_) (fun w5 => ?_)
                          · (exfalso; omega)
                          · conv => whnf
                            refine ifB_not ?_
                            conv => whnf
                            refine ifB_beqB (fun w6 => ?_) (fun w6 => ?_)
                            · conv => whnf
                              refine ⟨[], by kernel_rfl, ?_⟩
                              conv => whnf
                              refine ifB_beq (fun w7 => ?_) (fun w7 => ?_)
                              · conv => whnf
                                refine ifB_beq (fun w8 => ?_) (fun w8 => ?_)
                                · conv => whnf
                                  refine ⟨?_, nofun⟩
                                  (rfl)
                                · (exfalso; omega)
                              · (exfalso; omega)
                            · conv => whnf
                              refine ⟨?_, nofun⟩
                              (exact absurd hbe w6)
                    · conv => whnf
                      refine ifB_beq (fun w3 => ?_) (fun w3 => ?_)
                      · conv => whnf
                        refine ifB_beq (fun w4 => ?_) (fun w4 => ?_)
                        · conv => whnf
                          refine ifB_dec (fun w5 => ?_) (fun w5 => ?_)
                          · conv => whnf
                            refine ⟨?_, nofun⟩
                            (exact absurd (hyes w3 (by rw [← last_zero s w2]; exact w4)) (by omega))
                          · conv => whnf
                            refine ifB_dec (fun w6 => ?_) (fun w6 => ?_)
                            · (exfalso; omega)
                            · conv => whnf
                              refine ⟨[], by kernel_rfl, ?_⟩
                              conv => whnf
                              refine .inl ⟨_, _, byX rfl (h18), ?_⟩
                              conv => whnf
                              refine .inl ⟨_, _, byX rfl (Sound1.pl (h20) rfl), ?_⟩
                              conv => whnf
                              refine .inl ⟨_, _, byX rfl (h50w), ?_⟩
                              conv => whnf
                              refine ifB_bne (fun w7 => ?_) (fun w7 => ?_)
                              · (exfalso; omega)
                              · conv => whnf
                                refine ifB_not ?_
                                conv => whnf
                                refine ifB_beqB (fun w8 => ?_) (fun w8 => ?_)
                                · conv => whnf
                                  refine ⟨[], by kernel_rfl, ?_⟩
                                  conv => whnf
                                  refine ifB_beq (fun w9 => ?_) (fun w9 => ?_)
                                  · conv => whnf
                                    refine ifB_beq (fun w10 => ?_) (fun w10 => ?_)
                                    · conv => whnf
                                      refine ⟨?_, nofun⟩
                                      (rfl)
                                    · (exfalso; omega)
                                  · (exfalso; omega)
                                · conv => whnf
                                  refine ⟨?_, nofun⟩
                                  (exact absurd hbe w8)
                        · (exfalso; omega)
                      · conv => whnf
                        refine ifB_dec (fun w4 => ?_) (fun w4 => ?_)
                        · (exfalso; omega)
                        · conv => whnf
                          refine ⟨[], by kernel_rfl, ?_⟩
                          conv => whnf
                          refine .inl ⟨_, _, byX rfl (h18), ?_⟩
                          conv => whnf
                          refine .inl ⟨_, _, byX rfl (Sound1.pl (h20) rfl), ?_⟩
                          conv => whnf
                          refine .inl ⟨_, _, byX rfl (h50w), ?_⟩
                          conv => whnf
                          refine ifB_bne (fun w5 => ?_) (fun w5 => ?_)
                          · (exfalso; omega)
                          · conv => whnf
                            refine ifB_not ?_
                            conv => whnf
                            refine ifB_beqB (fun w6 => ?_) (fun w6 => ?_)
                            · conv => whnf
                              refine ⟨[], by kernel_rfl, ?_⟩
                              conv => whnf
                              refine ifB_beq (fun w7 => ?_) (fun w7 => ?_)
                              · conv => whnf
                                refine ifB_beq (fun w8 => ?_) (fun w8 => ?_)
                                · conv => whnf
                                  refine ⟨?_, nofun⟩
                                  (rfl)
                                · (exfalso; omega)
                              · (exfalso; omega)
                            · conv => whnf
                              refine ⟨?_, nofun⟩
                              (exact absurd hbe w6)
                · have hLl : 0 < L.length := List.length_pos_iff.2 hLe
                  have hwl : 0 < w.1.length := List.length_pos_iff.2 fun e => hLe (hL3.2 e)
                  have hto : (L.getD ((L.length : Int) - 1).toNat (0, 0)).1 = to := by rw [last_pos s (by omega), hL2, hs1]
                  refine sound (d := 2) tok2 mixed2 Tryd.func10 (by kernel_rfl) (by kernel_rfl) ?_
                  conv => whnf
                  refine .inl ⟨_, _, byX rfl (Sound1.pl (S13) rfl), ?_⟩
                  conv => whnf
                  refine ⟨[], by kernel_rfl, ?_⟩
                  conv => whnf
                  refine .inl ⟨_, _, byX rfl (Sound1.pl (h14) rfl), ?_⟩
                  conv => whnf
                  refine .inl ⟨_, _, byX rfl (Sound1.pl (h20) rfl), ?_⟩
                  conv => whnf
                  refine .inl ⟨_, _, byX rfl (Sound1.pl (h19) rfl), ?_⟩
                  conv => whnf
                  refine .inl ⟨_, _, byX rfl (Sound1.pl (h16) rfl), ?_⟩
                  conv => whnf
                  refine .inl ⟨_, _, byX rfl (Sound1.pl (h21) rfl), ?_⟩
                  conv => whnf
                  refine ifB_dec (fun w1 => ?_) (fun w1 => ?_)
                  · (exfalso; omega)
                  · conv => whnf
                    refine ⟨[], by kernel_rfl, ?_⟩
                    conv => whnf
                    refine .inl ⟨_, _, byX rfl (h18), ?_⟩
                    conv => whnf
                    refine .inl ⟨_, _, byX rfl (h17), ?_⟩
                    conv => whnf
                    refine ⟨[], by kernel_rfl, ?_⟩
                    conv => whnf
                    refine .inl ⟨_, _, byX rfl (h18), ?_⟩
                    conv => whnf
                    refine .inl ⟨_, _, byX rfl (Sound1.pl (h20) rfl), ?_⟩
                    conv => whnf
                    refine .inl ⟨_, _, byX rfl (h36), ?_⟩
                    conv => whnf
                    refine .inl ⟨_, _, byX rfl (h50), ?_⟩
                    conv => whnf
                    refine ifB_dec (fun w2 => ?_) (fun w2 => ?_)
                    · conv => whnf
                      refine ⟨inK64 (by omega) (by omega), ?_⟩
                      conv => whnf
                      refine ⟨⟨(by omega), (by omega)⟩, ?_⟩
                      conv => whnf
                      refine ifB_beq (fun w3 => ?_) (fun w3 => ?_)
                      · conv => whnf
                        refine ifB_beq (fun w4 => ?_) (fun w4 => ?_)
                        · conv => whnf
                          refine ifB_dec (fun w5 => ?_) (fun w5 => ?_)
                          · conv => whnf
                            refine ⟨?_, nofun⟩
                            (exact absurd (hyes w3 (by rw [← last_pos s w2]; exact w4)) (by omega))
                          · conv => whnf
                            refine ifB_dec (fun w6 => ?_) (fun w6 => ?_)
                            · (exfalso; omega)
                            · conv => whnf
                              refine ⟨[], by kernel_rfl, ?_⟩
                              conv => whnf
                              refine .inl ⟨_, _, byX rfl (h18), ?_⟩
                              conv => whnf
                              refine .inl ⟨_, _, byX rfl (Sound1.pl (h20) rfl), ?_⟩
                              conv => whnf
                              refine .inl ⟨_, _, byX rfl (h50w), ?_⟩
                              conv => whnf
                              refine ifB_bne (fun w7 => ?_) (fun w7 => ?_)
                              · (exfalso; omega)
                              · conv => whnf
                                refine ifB_not ?_
                                conv => whnf
                                refine ifB_beqB (fun w8 => ?_) (fun w8 => ?_)
                                · conv => whnf
                                  refine ⟨[], by kernel_rfl, ?_⟩
                                  conv => whnf
                                  refine ifB_beq (fun w9 => ?_) (fun w9 => ?_)
                                  · (exfalso; omega)
                                  · conv => whnf
                                    refine ifB_dec (fun w10 => ?_) (fun w10 => ?_)
                                    · conv => whnf
                                      refine ⟨inK64 (by omega) (by omega), ?_⟩
                                      conv => whnf
                                      refine ⟨⟨(by omega), (by omega)⟩, ?_⟩
                                      conv => whnf
                                      refine ⟨?_, nofun⟩
                                      (exact endb (beq_iff_eq.2 hto))
                                    · (exfalso; omega)
                                · conv => whnf
                                  refine ⟨?_, nofun⟩
                                  (exact absurd hbe w8)
                        · conv => whnf
                          refine ifB_dec (fun w5 => ?_) (fun w5 => ?_)
                          · (exfalso; omega)
                          · conv => whnf
                            refine ⟨[], by kernel_rfl, ?_⟩
                            conv => whnf
                            refine .inl ⟨_, _, byX rfl (h18), ?_⟩
                            conv => whnf
                            refine .inl ⟨_, _, byX rfl (Sound1.pl (h20) rfl), ?_⟩
                            conv => whnf
                            refine .inl ⟨_, _, byX rfl (h50w), ?_⟩
                            conv => whnf
                            refine ifB_bne (fun w6 => ?_) (fun w6 => ?_)
                            · (exfalso; omega)
                            · conv => whnf
                              refine ifB_not ?_
                              conv => whnf
                              refine ifB_beqB (fun w7 => ?_) (fun w7 => ?_)
                              · conv => whnf
                                refine ⟨[], by kernel_rfl, ?_⟩
                                conv => whnf
                                refine ifB_beq (fun w8 => ?_) (fun w8 => ?_)
                                · (exfalso; omega)
                                · conv => whnf
                                  refine ifB_dec (fun w9 => ?_) (fun w9 => ?_)
                                  · conv => whnf
                                    refine ⟨inK64 (by omega) (by omega), ?_⟩
                                    conv => whnf
                                    refine ⟨⟨(by omega), (by omega)⟩, ?_⟩
                                    conv => whnf
                                    refine ⟨?_, nofun⟩
                                    (exact endb (beq_iff_eq.2 hto))
                                  · (exfalso; omega)
                              · conv => whnf
                                refine ⟨?_, nofun⟩
                                (exact absurd hbe w7)
                      · conv => whnf
                        refine ifB_dec (fun w4 => ?_) (fun w4 => ?_)
                        · (exfalso; omega)
                        · conv => whnf
                          refine ⟨[], by kernel_rfl, ?_⟩
                          conv => whnf
                          refine .inl ⟨_, _, byX rfl (h18), ?_⟩
                          conv => whnf
                          refine .inl ⟨_, _, byX rfl (Sound1.pl (h20) rfl), ?_⟩
                          conv => whnf
                          refine .inl ⟨_, _, byX rfl (h50w), ?_⟩
                          conv => whnf
                          refine ifB_bne (fun w5 => ?_) (fun w5 => ?_)
                          · (exfalso; omega)
                          · conv => whnf
                            refine ifB_not ?_
                            conv => whnf
                            refine ifB_beqB (fun w6 => ?_) (fun w6 => ?_)
                            · conv => whnf
                              refine ⟨[], by kernel_rfl, ?_⟩
                              conv => whnf
                              refine ifB_beq (fun w7 => ?_) (fun w7 => ?_)
                              · (exfalso; omega)
                              · conv => whnf
                                refine ifB_dec (fun w8 => ?_) (fun w8 => ?_)
                                · conv => whnf
                                  refine ⟨inK64 (by omega) (by omega), ?_⟩
                                  conv => whnf
                                  refine ⟨⟨(by omega), (by omega)⟩, ?_⟩
                                  conv => whnf
                                  refine ⟨?_, nofun⟩
                                  (exact endb (beq_iff_eq.2 hto))
                                · (exfalso; omega)
                            · conv => whnf
                              refine ⟨?_, nofun⟩
                              (exact absurd hbe w6)
                    · conv => whnf
                      refine ifB_beq (fun w3 => ?_) (fun w3 => ?_)
                      · conv => whnf
                        refine ifB_beq (fun w4 => ?_) (fun w4 => ?_)
                        · conv => whnf
                          refine ifB_dec (fun w5 => ?_) (fun w5 => ?_)
                          · conv => whnf
                            refine ⟨?_, nofun⟩
                            (exact absurd (hyes w3 (by rw [← last_zero s w2]; exact w4)) (by omega))
                          · conv => whnf
                            refine ifB_dec (fun w6 => ?_) (fun w6 => ?_)
                            · (exfalso; omega)
                            · conv => whnf
                              refine ⟨[], by kernel_rfl, ?_⟩
                              conv => whnf
                              refine .inl ⟨_, _, byX rfl (h18), ?_⟩
                              conv => whnf
                              refine .inl ⟨_, _, byX rfl (Sound1.pl (h20) rfl), ?_⟩
                              conv => whnf
                              refine .inl ⟨_, _, byX rfl (h50w), ?_⟩
                              conv => whnf
                              refine ifB_bne (fun w7 => ?_) (fun w7 => ?_)
                              · (exfalso; omega)
                              · conv => whnf
                                refine ifB_not ?_
                                conv => whnf
                                refine ifB_beqB (fun w8 => ?_) (fun w8 => ?_)
                                · conv => whnf
                                  refine ⟨[], by kernel_rfl, ?_⟩
                                  conv => whnf
                                  refine ifB_beq (fun w9 => ?_) (fun w9 => ?_)
                                  · (exfalso; omega)
                                  · conv => whnf
                                    refine ifB_dec (fun w10 => ?_) (fun w10 => ?_)
                                    · conv => whnf
                                      refine ⟨inK64 (by omega) (by omega), ?_⟩
                                      conv => whnf
                                      refine ⟨⟨(by omega), (by omega)⟩, ?_⟩
                                      conv => whnf
                                      refine ⟨?_, nofun⟩
                                      (exact endb (beq_iff_eq.2 hto))
                                    · (exfalso; omega)
                                · conv => whnf
                                  refine ⟨?_, nofun⟩
                                  (exact absurd hbe w8)
                        · conv => whnf
                          refine ifB_dec (fun w5 => ?_) (fun w5 => ?_)
                          · (exfalso; omega)
                          · conv => whnf
                            refine ⟨[], by kernel_rfl, ?_⟩
                            conv => whnf
                            refine .inl ⟨_, _, byX rfl (h18), ?_⟩
                            conv => whnf
                            refine .inl ⟨_, _, byX rfl (Sound1.pl (h20) rfl), ?_⟩
                            conv => whnf
                            refine .inl ⟨_, _, byX rfl (h50w), ?_⟩
                            conv => whnf
                            refine ifB_bne (fun w6 => ?_) (fun w6 => ?_)
                            · (exfalso; omega)
                            · conv => whnf
                              refine ifB_not ?_
                              conv => whnf
                              refine ifB_beqB (fun w7 => ?_) (fun w7 => ?_)
                              · conv => whnf
                                refine ⟨[], by kernel_rfl, ?_⟩
                                conv => whnf
                                refine ifB_beq (fun w8 => ?_) (fun w8 => ?_)
                                · (exfalso; omega)
                                · conv => whnf
                                  refine ifB_dec (fun w9 => ?_) (fun w9 => ?_)
                                  · conv => whnf
                                    refine ⟨inK64 (by omega) (by omega), ?_⟩
                                    conv => whnf
                                    refine ⟨⟨(by omega), (by omega)⟩, ?_⟩
                                    conv => whnf
                                    refine ⟨?_, nofun⟩
                                    (exact endb (beq_iff_eq.2 hto))
                                  · (exfalso; omega)
                              · conv => whnf
                                refine ⟨?_, nofun⟩
                                (exact absurd hbe w7)
                      · conv => whnf
                        refine ifB_dec (fun w4 => ?_) (fun w4 => ?_)
                        · (exfalso; omega)
                        · conv => whnf
                          refine ⟨[], by kernel_rfl, ?_⟩
                          conv => whnf
                          refine .inl ⟨_, _, byX rfl (h18), ?_⟩
                          conv => whnf
                          refine .inl ⟨_, _, byX rfl (Sound1.pl (h20) rfl), ?_⟩
                          conv => whnf
                          refine .inl ⟨_, _, byX rfl (h50w), ?_⟩
                          conv => whnf
                          refine ifB_bne (fun w5 => ?_) (fun w5 => ?_)
                          · (exfalso; omega)
                          · conv => whnf
                            refine ifB_not ?_
                            conv => whnf
                            refine ifB_beqB (fun w6 => ?_) (fun w6 => ?_)
                            · conv => whnf
                              refine ⟨[], by kernel_rfl, ?_⟩
                              conv => whnf
                              refine ifB_beq (fun w7 => ?_) (fun w7 => ?_)
                              · (exfalso; omega)
                              · conv => whnf
                                refine ifB_dec (fun w8 => ?_) (fun w8 => ?_)
                                · conv => whnf
                                  refine ⟨inK64 (by omega) (by omega), ?_⟩
                                  conv => whnf
                                  refine ⟨⟨(by omega), (by omega)⟩, ?_⟩
                                  conv => whnf
                                  refine ⟨?_, nofun⟩
                                  (exact endb (beq_iff_eq.2 hto))
                                · (exfalso; omega)
                            · conv => whnf
                              refine ⟨?_, nofun⟩
                              (exact absurd hbe w6)
            · have hE : fastE p s to = 20 := by
                unfold fastE
                rw [if_neg (not_not_intro h0), if_neg (not_not_intro hx), if_neg hw]
              rw [hE, if_pos (by decide)] at h17
              have hRl := runP_len (f := noF) (cs := cs) hg hs
              generalize runP p s noF cs = R at h50 hRl
              refine sound (d := 2) tok2 mixed2 Tryd.func10 (by kernel_rfl) (by kernel_rfl) ?_
              conv => whnf
              refine .inl ⟨_, _, byX rfl (Sound1.pl (S13) rfl), ?_⟩
              conv => whnf
              refine ⟨[], by kernel_rfl, ?_⟩
              conv => whnf
              refine .inl ⟨_, _, byX rfl (Sound1.pl (h14) rfl), ?_⟩
              conv => whnf
              refine .inl ⟨_, _, byX rfl (Sound1.pl (h20) rfl), ?_⟩
              conv => whnf
              refine .inl ⟨_, _, byX rfl (Sound1.pl (h19) rfl), ?_⟩
              conv => whnf
              refine .inl ⟨_, _, byX rfl (Sound1.pl (h16) rfl), ?_⟩
              conv => whnf
              refine .inl ⟨_, _, byX rfl (Sound1.pl (h21) rfl), ?_⟩
              conv => whnf
              refine ifB_dec (fun w1 => ?_) (fun w1 => ?_)
              · (exfalso; omega)
              · conv => whnf
                refine ⟨[], by kernel_rfl, ?_⟩
                conv => whnf
                refine .inl ⟨_, _, byX rfl (h18), ?_⟩
                conv => whnf
                refine .inl ⟨_, _, byX rfl (h17), ?_⟩
                conv => whnf
                refine ⟨[], by kernel_rfl, ?_⟩
                conv => whnf
                refine .inl ⟨_, _, byX rfl (h18), ?_⟩
                conv => whnf
                refine .inl ⟨_, _, byX rfl (Sound1.pl (h20) rfl), ?_⟩
                conv => whnf
                refine .inl ⟨_, _, byX rfl (h36), ?_⟩
                conv => whnf
                refine .inl ⟨_, _, byX rfl (h50), ?_⟩
                conv => whnf
                refine ifB_dec (fun w2 => ?_) (fun w2 => ?_)
                · conv => whnf
                  refine ⟨inK64 (by omega) (by omega), ?_⟩
                  conv => whnf
                  refine ⟨⟨(by omega), (by omega)⟩, ?_⟩
                  conv => whnf
                  refine ⟨?_, nofun⟩
                  (rfl)
                · conv => whnf
                  refine ⟨?_, nofun⟩
                  (rfl)
          · refine sound (d := 2) tok2 mixed2 Tryd.func10 (by kernel_rfl) (by kernel_rfl) ?_
            conv => whnf
            refine .inl ⟨_, _, byX rfl (Sound1.pl (S13) rfl), ?_⟩
            conv => whnf
            refine ⟨[], by kernel_rfl, ?_⟩
            conv => whnf
            refine .inl ⟨_, _, byX rfl (Sound1.pl (h14) rfl), ?_⟩
            conv => whnf
            refine .inl ⟨_, _, byX rfl (Sound1.pl (h20) rfl), ?_⟩
            conv => whnf
            refine .inl ⟨_, _, byX rfl (Sound1.pl (h19) rfl), ?_⟩
            conv => whnf
            refine .inl ⟨_, _, byX rfl (Sound1.pl (h16) rfl), ?_⟩
            conv => whnf
            refine .inl ⟨_, _, byX rfl (Sound1.pl (h21) rfl), ?_⟩
            conv => whnf
            refine ifB_bne (fun w1 => ?_) (fun w1 => ?_)
            · conv => whnf
              refine ⟨?_, nofun⟩
              (rfl)
            · (exfalso; omega)
        | false =>
          rw [hlt] at h16
          refine sound (d := 2) tok2 mixed2 Tryd.func10 (by kernel_rfl) (by kernel_rfl) ?_
          conv => whnf
          refine .inl ⟨_, _, byX rfl (Sound1.pl (S13) rfl), ?_⟩
          conv => whnf
          refine ⟨[], by kernel_rfl, ?_⟩
          conv => whnf
          refine .inl ⟨_, _, byX rfl (Sound1.pl (h14) rfl), ?_⟩
          conv => whnf
          refine .inl ⟨_, _, byX rfl (Sound1.pl (h20) rfl), ?_⟩
          conv => whnf
          refine .inl ⟨_, _, byX rfl (Sound1.pl (h19) rfl), ?_⟩
          conv => whnf
          refine .inl ⟨_, _, byX rfl (Sound1.pl (h16) rfl), ?_⟩
          conv => whnf
          refine ⟨?_, nofun⟩
          (rfl)
      · refine sound (d := 2) tok2 mixed2 Tryd.func10 (by kernel_rfl) (by kernel_rfl) ?_
        conv => whnf
        refine .inl ⟨_, _, byX rfl (Sound1.pl (S13) rfl), ?_⟩
        conv => whnf
        refine ⟨[], by kernel_rfl, ?_⟩
        conv => whnf
        refine .inl ⟨_, _, byX rfl (Sound1.pl (h14) rfl), ?_⟩
        conv => whnf
        refine .inl ⟨_, _, byX rfl (Sound1.pl (h20) rfl), ?_⟩
        conv => whnf
        refine .inl ⟨_, _, byX rfl (Sound1.pl (h19) rfl), ?_⟩
        conv => whnf
        refine .inl ⟨_, _, byX rfl (Sound1.pl (h16) rfl), ?_⟩
        conv => whnf
        refine ifB_not ?_
        conv => whnf
        refine ifB_intro (fun w1 => ?_) (fun w1 => ?_)
        · conv => whnf
          refine .inl ⟨_, _, byX rfl (Sound1.pl (h21) rfl), ?_⟩
          conv => whnf
          refine ifB_bne (fun w2 => ?_) (fun w2 => ?_)
          · conv => whnf
            refine ⟨?_, nofun⟩
            (rfl)
          · conv => whnf
            refine ifB_dec (fun w3 => ?_) (fun w3 => ?_)
            · conv => whnf
              refine ⟨?_, nofun⟩
              (rfl)
            · (exfalso; omega)
        · conv => whnf
          refine ⟨?_, nofun⟩
          (rfl)
    · refine sound (d := 2) tok2 mixed2 Tryd.func10 (by kernel_rfl) (by kernel_rfl) ?_
      conv => whnf
      refine .inl ⟨_, _, byX rfl (Sound1.pl (S13) rfl), ?_⟩
      conv => whnf
      refine ⟨[], by kernel_rfl, ?_⟩
      conv => whnf
      refine .inl ⟨_, _, byX rfl (Sound1.pl (h14) rfl), ?_⟩
      conv => whnf
      refine .inl ⟨_, _, byX rfl (Sound1.pl (h20) rfl), ?_⟩
      conv => whnf
      refine .inl ⟨_, _, byX rfl (Sound1.pl (h19) rfl), ?_⟩
      conv => whnf
      refine ifB_bne (fun w1 => ?_) (fun w1 => ?_)
      · conv => whnf
        refine ⟨?_, nofun⟩
        (rfl)
      · (exfalso; omega)
end Go.Tr

/- Plain laws of chapter 7: the fastest way is the least of all ways; ways that avoid their end on the road. Conditions: none. -/
namespace Go.Tr
open Go Go.Proofs
set_option maxRecDepth 20000
set_option maxHeartbeats 8000000

theorem nlt_trans {a b c : Way} (h1 : wlt a b = false) (h2 : wlt b c = false) : wlt a c = false := by
  cases h : wlt a c with
  | false => rfl
  | true =>
    rcases wlt_total b c with h3 | h3 | h3
    · rw [h2] at h3; cases h3
    · subst h3; rw [h1] at h; cases h
    · have := wlt_trans h h3
      rw [h1] at this; cases this
theorem cmpL_snoc : ∀ {l m : List Int} {c : Int}, l.length = m.length → (cmpL (l ++ [c]) (m ++ [c]) < 0 ↔ cmpL l m < 0)
  | [], [], c, _ => by
    show cmpL [c] [c] < 0 ↔ cmpL [] [] < 0
    rw [cmpL_self, cmpL_self]
  | [], _ :: _, _, h => by cases h
  | _ :: _, [], _, h => by cases h
  | a :: l, b :: m, c, h => by
    show cmpL (a :: (l ++ [c])) (b :: (m ++ [c])) < 0 ↔ _
    rw [cmpL_cons, cmpL_cons, cmpL_snoc (Nat.succ.inj h)]
theorem wlt_snoc {a b : Way} {c d : Int} (hl : a.1.length = b.1.length) (h : wlt a b = false) : wlt (a.1 ++ [c], a.2 + d) (b.1 ++ [c], b.2 + d) = false := by
  cases h2 : wlt (a.1 ++ [c], a.2 + d) (b.1 ++ [c], b.2 + d) with
  | false => rfl
  | true =>
    have h3 := of_decide_eq_true h2
    rw [cmpL_cons] at h3
    have : wlt a b = true := by
      refine decide_eq_true ?_
      rw [cmpL_cons]
      rcases h3 with h3 | ⟨h3, h4⟩
      · exact .inl (by have h3 : a.2 + d < b.2 + d := h3; omega)
      · exact .inr ⟨by have h3 : a.2 + d = b.2 + d := h3; omega, (cmpL_snoc hl).1 h4⟩
    rw [h] at this; cases this
theorem min_least {l : List Way} {v : Way} (hv : v ∈ l) : ∃ w, minL l = some w ∧ wlt v w = false := by
  cases h : minL l with
  | none => rw [minL_none] at h; rw [h] at hv; cases hv
  | some w => exact ⟨w, rfl, (minL_some.1 h).2 v hv⟩
/-- The least way of a layer is the least of all ways of that length. -/
theorem layer_least {p : Pln} (hg : Good p) {s0 : S2} (hs : OkS p s0) (hw : (stp p s0).wait = 0) {cs : List Int} {s : S2} {t : Int} (h : Leads p s0 cs s t) : ∃ w, least (layer p s0 cs.length) s = some w ∧ wlt (cs, t) w = false := by
  induction h with
  | nil => exact min_least (mem_waysTo.2 (List.mem_singleton.2 rfl))
  | @snoc cs s t c r h hc hr ih =>
    obtain ⟨w, h1, h2⟩ := ih
    have hlen := (layer_ok hg hs hw cs.length (s, w) (least_mem h1)).2.2.1
    rw [List.length_append]
    have hm : (lastOf r.1, (w.1 ++ [c], w.2 + r.2)) ∈ layer p s0 (cs.length + 1) := by
      refine List.mem_flatMap.2 ⟨(s, w), mem_norm.2 h1, List.mem_filterMap.2 ⟨c, hasI_mem.1 hc, ?_⟩⟩
      unfold stepWay
      rw [hr]
    obtain ⟨v, h3, h4⟩ := min_least (mem_waysTo.2 hm)
    exact ⟨v, h3, nlt_trans (wlt_snoc (a := (cs, t)) hlen.symm h2) h4⟩
/-- The least way of a number of commands to a step. -/
theorem here_least {p : Pln} (hg : Good p) {s0 : S2} (hs : OkS p s0) (hw : (stp p s0).wait = 0) {to : Int} {k : Nat} {b : Way} (hb : hereW p s0 to k = some b) {cs : List Int} {s : S2} {t : Int} (h : Leads p s0 cs s t) (hk : cs.length = k) (ht : s.1 = to) : wlt (cs, t) b = false := by
  subst hk
  obtain ⟨w, h1, h2⟩ := layer_least hg hs hw h
  have hm : w ∈ toW to (norm (layer p s0 cs.length)) := List.mem_map.2 ⟨(s, w), List.mem_filter.2 ⟨mem_norm.2 h1, by simp [ht]⟩, rfl⟩
  exact nlt_trans h2 ((minL_some.1 hb).2 w hm)
theorem here_leads {p : Pln} (hg : Good p) {s0 : S2} (hs : OkS p s0) (hw : (stp p s0).wait = 0) {to : Int} {k : Nat} {b : Way} (h2 : hereW p s0 to k = some b) : ∃ s, s.1 = to ∧ Leads p s0 b.1 s b.2 ∧ b.1.length = k := by
  obtain ⟨e, h3, h4⟩ := List.mem_map.1 (minL_some.1 h2).1
  obtain ⟨h5, h6⟩ := List.mem_filter.1 h3
  have h7 := leads_of_layer k e (norm_mem h5)
  have h8 := (layer_ok hg hs hw k e (norm_mem h5)).2.2.1
  rw [h4] at h7 h8
  exact ⟨e.1, by simpa using h6, h7, h8⟩
/-- Ways that come to a step at their end alone. -/
inductive Avoid (p : Pln) (s0 : S2) (to : Int) : List Int → S2 → Int → Prop where
  | nil : Avoid p s0 to [] s0 0
  | snoc {cs : List Int} {s : S2} {t c : Int} {r : List S2 × Int} (h : Avoid p s0 to cs s t) (ha : s.1 ≠ to) (hc : hasI (stp p s).exits c = true) (hr : commandF p noF s c = some r) : Avoid p s0 to (cs ++ [c]) (lastOf r.1) (t + r.2)
theorem Avoid.leads {p : Pln} {s0 : S2} {to : Int} {cs : List Int} {s : S2} {t : Int} (h : Avoid p s0 to cs s t) : Leads p s0 cs s t := by
  induction h with
  | nil => exact .nil
  | snoc _ _ hc hr ih => exact .snoc ih hc hr
/-- A way comes to the step at its end alone, or it was there before, in less time. -/
theorem leads_avoid {p : Pln} (hg : Good p) {s0 : S2} (hs : OkS p s0) (hw : (stp p s0).wait = 0) (to : Int) {cs : List Int} {s : S2} {t : Int} (h : Leads p s0 cs s t) : Avoid p s0 to cs s t ∨ ∃ cs' s' t', Leads p s0 cs' s' t' ∧ s'.1 = to ∧ cs'.length < cs.length ∧ t' < t := by
  induction h with
  | nil => exact .inl .nil
  | @snoc cs s t c r h hc hr ih =>
    have hok := h.ok hg hs hw
    have ht := (command_ok hg hok.1 (.inr (exit_ok hg hok.1 hok.2 hc)) hr).t1
    rcases ih with ih | ⟨cs', s', t', h1, h2, h3, h4⟩
    · by_cases ha : s.1 = to
      · exact .inr ⟨cs, s, t, h, ha, by simp, by omega⟩
      · exact .inl (.snoc ih ha hc hr)
    · exact .inr ⟨cs', s', t', h1, h2, by rw [List.length_append]; simp; omega, by omega⟩
/-- The least way that comes to the step at its end alone, of so many commands. -/
structure IsHere (p : Pln) (s0 : S2) (to : Int) (k : Nat) (o : Option Way) : Prop where
  none : o = none → ∀ cs s t, Avoid p s0 to cs s t → cs.length = k → s.1 ≠ to
  some : ∀ w, o = some w → (∃ s, s.1 = to ∧ Avoid p s0 to w.1 s w.2 ∧ w.1.length = k) ∧ ∀ cs s t, Avoid p s0 to cs s t → cs.length = k → s.1 = to → wlt (cs, t) w = false
theorem wlt_nlt {a b : Way} (h1 : wlt a b = false) (h2 : wlt b a = false) : a = b := by
  rcases wlt_total a b with h | h | h
  · rw [h1] at h; cases h
  · exact h
  · rw [h2] at h; cases h
/-- One round: whichever ways are kept, the best one so far is the same. -/
theorem round_same {p : Pln} (hg : Good p) {s0 : S2} (hs : OkS p s0) (hw : (stp p s0).wait = 0) {to : Int} {k : Nat} {o : Option Way} (ho : IsHere p s0 to k o) : upB (bestW p s0 to k) o = upB (bestW p s0 to k) (hereW p s0 to k) := by
  cases hh : hereW p s0 to k with
  | none =>
    cases o with
    | none => rfl
    | some w =>
      obtain ⟨⟨s, h1, h2, h3⟩, _⟩ := ho.some w rfl
      obtain ⟨v, h4, _⟩ := here_of_leads h2.leads h1
      rw [h3, hh] at h4; cases h4
  | some h =>
    obtain ⟨s, h1, h2, h3⟩ := here_leads hg hs hw hh
    rcases leads_avoid hg hs hw to h2 with ha | ⟨cs', s', t', g1, g2, g3, g4⟩
    · cases o with
      | none => exact absurd h1 (ho.none rfl h.1 s h.2 ha h3)
      | some w =>
        obtain ⟨⟨s2, w1, w2, w3⟩, w4⟩ := ho.some w rfl
        have e1 := w4 h.1 s h.2 ha h3 h1
        have e2 := here_least hg hs hw hh w2.leads w3 w1
        rw [show h = w from wlt_nlt e1 e2]
    · obtain ⟨v, v1, v2⟩ := here_of_leads g1 g2
      obtain ⟨b, b1, b2⟩ := best_le v1 k (by omega)
      have hb : ∀ x : Way, h.2 ≤ x.2 → upB (some b) (some x) = some b := fun x hx => by
        show (if x.2 < b.2 then some x else some b) = some b
        rw [if_neg (by omega)]
      rw [b1, hb h (Int.le_refl _)]
      cases o with
      | none => rfl
      | some w =>
        obtain ⟨⟨s2, w1, w2, w3⟩, _⟩ := ho.some w rfl
        refine hb w ?_
        have e2 := here_least hg hs hw hh w2.leads w3 w1
        rcases wlt_total h w with h5 | h5 | h5
        · exact wlt_time h5
        · rw [h5]; exact Int.le_refl _
        · rw [show wlt w h = false from e2] at h5; cases h5
end Go.Tr

/- Plain laws of chapter 7: the best way so far, as the reference keeps it. Conditions: none. -/
namespace Go.Tr
open Go Go.Proofs
set_option maxRecDepth 20000
set_option maxHeartbeats 8000000

/-- The best way so far, and one more: less time, or as much time and as many commands that come before. -/
def updB (b : Option Way) (c : Way) : Option Way :=
  match b with
  | none => some c
  | some b => if c.2 < b.2 ∨ (c.2 = b.2 ∧ c.1.length = b.1.length ∧ cmpL c.1 b.1 < 0) then some c else some b
theorem wlt_iff {a b : Way} : wlt a b = true ↔ a.2 < b.2 ∨ (a.2 = b.2 ∧ cmpL a.1 b.1 < 0) := by
  unfold wlt
  rw [decide_eq_true_iff, cmpL_cons]
theorem updB_up {B : Option Way} {D : List Way} {c : Way} {k : Nat} (hB : ∀ b, B = some b → b.1.length < k) (hD : ∀ d ∈ D, d.1.length = k) (hc : c.1.length = k) : updB (upB B (minL D)) c = upB B (minL (D ++ [c])) := by
  rw [minL_snoc]
  cases hm : minL D with
  | none =>
    cases B with
    | none => rfl
    | some b =>
      have hb := hB b rfl
      show (if c.2 < b.2 ∨ (c.2 = b.2 ∧ c.1.length = b.1.length ∧ cmpL c.1 b.1 < 0) then some c else some b) = (if c.2 < b.2 then some c else some b)
      by_cases h : c.2 < b.2
      · rw [if_pos (.inl h), if_pos h]
      · rw [if_neg (fun h2 => h2.elim h fun h3 => by omega), if_neg h]
  | some m =>
    have hml : m.1.length = k := hD m (minL_some.1 hm).1
    cases B with
    | none =>
      show (if c.2 < m.2 ∨ (c.2 = m.2 ∧ c.1.length = m.1.length ∧ cmpL c.1 m.1 < 0) then some c else some m) = upB none (if wlt c m then some c else some m)
      by_cases h : wlt c m = true
      · rw [if_pos h, if_pos ((wlt_iff.1 h).elim .inl fun h2 => .inr ⟨h2.1, by omega, h2.2⟩)]; rfl
      · rw [if_neg h, if_neg (fun h2 => h (wlt_iff.2 (h2.elim .inl fun h3 => .inr ⟨h3.1, h3.2.2⟩)))]; rfl
    | some b =>
      have hb := hB b rfl
      show updB (if m.2 < b.2 then some m else some b) c = upB (some b) (if wlt c m then some c else some m)
      by_cases hmb : m.2 < b.2
      · rw [if_pos hmb]
        show (if c.2 < m.2 ∨ (c.2 = m.2 ∧ c.1.length = m.1.length ∧ cmpL c.1 m.1 < 0) then some c else some m) = _
        by_cases h : wlt c m = true
        · have hcb : c.2 < b.2 := by have := wlt_time h; omega
          rw [if_pos h, if_pos ((wlt_iff.1 h).elim .inl fun h2 => .inr ⟨h2.1, by omega, h2.2⟩)]
          exact (if_pos hcb).symm
        · rw [if_neg h, if_neg (fun h2 => h (wlt_iff.2 (h2.elim .inl fun h3 => .inr ⟨h3.1, h3.2.2⟩)))]
          exact (if_pos hmb).symm
      · rw [if_neg hmb]
        show (if c.2 < b.2 ∨ (c.2 = b.2 ∧ c.1.length = b.1.length ∧ cmpL c.1 b.1 < 0) then some c else some b) = _
        by_cases h : c.2 < b.2
        · have hcm : wlt c m = true := wlt_iff.2 (.inl (by omega))
          rw [if_pos (.inl h), if_pos hcm]
          exact (if_pos h).symm
        · rw [if_neg (fun h2 => h2.elim h fun h3 => by omega)]
          by_cases hcm : wlt c m = true
          · rw [if_pos hcm]; exact (if_neg h).symm
          · rw [if_neg hcm]; exact (if_neg hmb).symm
end Go.Tr

/- Plain laws of chapter 7: the ways kept, one for each state. Conditions: none. -/
namespace Go.Tr
open Go Go.Proofs
set_option maxRecDepth 20000
set_option maxHeartbeats 8000000

/-- One more way: in the place of that to the same state, if it is less; else behind the others. -/
def keepL : List Ent → Ent → List Ent
  | [], e => [e]
  | x :: N, e => if x.1 = e.1 then (if wlt e.2 x.2 then e :: N else x :: N) else x :: keepL N e
theorem keep_states : ∀ (N : List Ent) (e : Ent), (keepL N e).map (·.1) = N.map (·.1) ++ (if e.1 ∈ N.map (·.1) then [] else [e.1])
  | [], e => by simp [keepL]
  | x :: N, e => by
    unfold keepL
    by_cases h : x.1 = e.1
    · rw [if_pos h]
      split <;> simp [h]
    · rw [if_neg h]
      have h2 : ¬ e.1 = x.1 := fun h3 => h h3.symm
      simp only [List.map_cons, keep_states N e, List.mem_cons, h2, false_or, List.cons_append]
/-- The ways kept out of some ways. -/
structure Kept (N D : List Ent) : Prop where
  nodup : (N.map (·.1)).Nodup
  mem : ∀ e, e ∈ N ↔ least D e.1 = some e.2
theorem Kept.nil : Kept [] [] := ⟨by simp, fun e => ⟨fun h => (by cases h), fun h => (by cases h)⟩⟩
theorem Kept.none {N D : List Ent} (h : Kept N D) {s : S2} : s ∉ N.map (·.1) ↔ least D s = none := by
  constructor
  · intro h1
    cases hl : least D s with
    | none => rfl
    | some w => exact absurd (List.mem_map.2 ⟨(s, w), (h.mem (s, w)).2 hl, rfl⟩) h1
  · intro h1 h2
    obtain ⟨e, he, h3⟩ := List.mem_map.1 h2
    have := (h.mem e).1 he
    rw [h3, h1] at this; cases this
theorem keep_mem : ∀ (N : List Ent) (e y : Ent), (N.map (·.1)).Nodup → (y ∈ keepL N e ↔ if y.1 = e.1 then (match N.find? (fun x => x.1 = e.1) with | none => y = e | some x => y = if wlt e.2 x.2 then e else x) else y ∈ N)
  | [], e, y, _ => by
    show y ∈ [e] ↔ _
    by_cases h : y.1 = e.1
    · rw [if_pos h]; simp
    · rw [if_neg h]
      simp only [List.mem_singleton, List.not_mem_nil, iff_false]
      exact fun h2 => h (by rw [h2])
  | x :: N, e, y, hn => by
    have hn1 : x.1 ∉ N.map (·.1) := (List.nodup_cons.1 hn).1
    unfold keepL
    by_cases hx : x.1 = e.1
    · rw [if_pos hx]
      have hf : (x :: N).find? (fun x => x.1 = e.1) = some x := by simp [hx]
      rw [hf]
      have hnot : ∀ z ∈ N, z.1 ≠ e.1 := fun z hz h2 => hn1 (List.mem_map.2 ⟨z, hz, by rw [h2, hx]⟩)
      by_cases hy : y.1 = e.1
      · rw [if_pos hy]
        have : y ∉ N := fun h => hnot y h hy
        by_cases hw : wlt e.2 x.2 = true
        · rw [if_pos hw]
          show y ∈ e :: N ↔ y = if wlt e.2 x.2 = true then e else x
          rw [if_pos hw]; simp [this]
        · rw [if_neg hw]
          show y ∈ x :: N ↔ y = if wlt e.2 x.2 = true then e else x
          rw [if_neg hw]; simp [this]
      · rw [if_neg hy]
        have h1 : y ≠ e := fun h => hy (by rw [h])
        have h2 : y ≠ x := fun h => hy (by rw [h, hx])
        split <;> simp [h1, h2]
    · rw [if_neg hx]
      have hf : (x :: N).find? (fun x => x.1 = e.1) = N.find? (fun x => x.1 = e.1) := by simp [hx]
      rw [hf, List.mem_cons, keep_mem N e y (List.nodup_cons.1 hn).2]
      by_cases hy : y.1 = e.1
      · rw [if_pos hy, if_pos hy]
        have : y ≠ x := fun h => hx (by rw [← h, hy])
        simp [this]
      · rw [if_neg hy, if_neg hy]; simp
theorem Kept.snoc {N D : List Ent} (h : Kept N D) (e : Ent) : Kept (keepL N e) (D ++ [e]) := by
  refine ⟨?_, fun y => ?_⟩
  · rw [keep_states]
    split
    · rw [List.append_nil]; exact h.nodup
    · rename_i h1
      exact List.nodup_append.2 ⟨h.nodup, by simp, fun a ha b hb e2 => h1 (by rw [← List.mem_singleton.1 hb, ← e2]; exact ha)⟩
  · rw [keep_mem N e y h.nodup, least_snoc]
    by_cases hy : y.1 = e.1
    · rw [if_pos hy, if_pos hy.symm]
      cases hf : N.find? (fun x => x.1 = e.1) with
      | none =>
        have hno : e.1 ∉ N.map (·.1) := fun h2 => by
          obtain ⟨x, hx, h3⟩ := List.mem_map.1 h2
          have := List.find?_eq_none.1 hf x hx
          simp [h3] at this
        rw [hy, h.none.1 hno]
        show y = e ↔ some e.2 = some y.2
        exact ⟨fun h2 => by rw [h2], fun h2 => Prod.ext hy (Option.some.inj h2).symm⟩
      | some x =>
        have hx1 : x.1 = e.1 := by have := List.find?_some hf; simpa using this
        have hx2 := (h.mem x).1 (List.mem_of_find?_eq_some hf)
        rw [hy, ← hx1, hx2]
        show (y = if wlt e.2 x.2 = true then e else x) ↔ (if wlt e.2 x.2 = true then some e.2 else some x.2) = some y.2
        split
        · exact ⟨fun h2 => by rw [h2], fun h2 => Prod.ext hy (Option.some.inj h2).symm⟩
        · exact ⟨fun h2 => by rw [h2], fun h2 => Prod.ext (hy.trans hx1.symm) (Option.some.inj h2).symm⟩
    · rw [if_neg hy, if_neg (fun h2 => hy h2.symm)]
      exact h.mem y
end Go.Tr

/- Plain laws of chapter 7: a round of the reference's search. Conditions: none. -/
namespace Go.Tr
open Go Go.Proofs
set_option maxRecDepth 20000
set_option maxHeartbeats 8000000

/-- The ways of k commands that are kept: each avoids the step, each state has its least one. -/
structure NOk (p : Pln) (s0 : S2) (to : Int) (k : Nat) (N : List Ent) : Prop where
  ok : ∀ e ∈ N, Avoid p s0 to e.2.1 e.1 e.2.2 ∧ e.2.1.length = k ∧ e.1.1 ≠ to
  all : ∀ cs s t, Avoid p s0 to cs s t → cs.length = k → s.1 ≠ to → ∃ w, (s, w) ∈ N ∧ wlt (cs, t) w = false
theorem NOk.start {p : Pln} {s0 : S2} {to : Int} (h : s0.1 ≠ to) : NOk p s0 to 0 [(s0, ([], 0))] := by
  refine ⟨fun e he => ?_, fun cs s t ha hk hs => ?_⟩
  · rw [List.mem_singleton.1 he]
    exact ⟨.nil, rfl, h⟩
  · cases ha with
    | nil => exact ⟨([], 0), List.mem_singleton.2 rfl, wlt_irr _⟩
    | snoc _ _ _ _ => rw [List.length_append] at hk; simp at hk
theorem ext_avoid {p : Pln} {s0 : S2} {to : Int} {k : Nat} {N : List Ent} (hN : NOk p s0 to k N) {x : Ent} (hx : x ∈ ext p N) : Avoid p s0 to x.2.1 x.1 x.2.2 ∧ x.2.1.length = k + 1 := by
  obtain ⟨e, he, hx⟩ := List.mem_flatMap.1 hx
  obtain ⟨c, hc, hx⟩ := List.mem_filterMap.1 hx
  obtain ⟨h1, h2, h3⟩ := hN.ok e he
  unfold stepWay at hx
  cases hr : commandF p noF e.1 c with
  | none => rw [hr] at hx; cases hx
  | some r =>
    rw [hr] at hx
    cases hx
    exact ⟨.snoc h1 h3 (hasI_mem.2 hc) hr, by rw [List.length_append, h2]; rfl⟩
theorem avoid_ext {p : Pln} {s0 : S2} {to : Int} {k : Nat} {N : List Ent} (hN : NOk p s0 to k N) {cs : List Int} {s : S2} {t : Int} (ha : Avoid p s0 to cs s t) (hk : cs.length = k + 1) : ∃ w, (s, w) ∈ ext p N ∧ wlt (cs, t) w = false := by
  cases ha with
  | nil => simp at hk
  | @snoc cs s t c r h ha hc hr =>
    rw [List.length_append] at hk
    have hk : cs.length = k := by simpa using hk
    obtain ⟨w, h1, h2⟩ := hN.all cs s t h hk ha
    have hl := (hN.ok _ h1).2.1
    refine ⟨(w.1 ++ [c], w.2 + r.2), List.mem_flatMap.2 ⟨(s, w), h1, List.mem_filterMap.2 ⟨c, hasI_mem.1 hc, ?_⟩⟩, wlt_snoc (a := (cs, t)) (hk.trans hl.symm) h2⟩
    unfold stepWay
    rw [hr]
theorem NOk.next {p : Pln} {s0 : S2} {to : Int} {k : Nat} {N N' : List Ent} (hN : NOk p s0 to k N) (hK : Kept N' ((ext p N).filter fun e => decide (e.1.1 ≠ to))) : NOk p s0 to (k + 1) N' := by
  refine ⟨fun e he => ?_, fun cs s t ha hk hs => ?_⟩
  · have h1 := least_mem ((hK.mem e).1 he)
    obtain ⟨h2, h3⟩ := List.mem_filter.1 h1
    have := ext_avoid hN h2
    exact ⟨this.1, this.2, of_decide_eq_true h3⟩
  · obtain ⟨w, h1, h2⟩ := avoid_ext hN ha hk
    obtain ⟨v, h3, h4⟩ := min_least (mem_waysTo.2 (List.mem_filter.2 ⟨h1, decide_eq_true hs⟩ : (s, w) ∈ (ext p N).filter fun e => decide (e.1.1 ≠ to)))
    exact ⟨v, (hK.mem (s, v)).2 h3, nlt_trans h2 h4⟩
theorem NOk.here {p : Pln} {s0 : S2} {to : Int} {k : Nat} {N : List Ent} (hN : NOk p s0 to k N) : IsHere p s0 to (k + 1) (minL (toW to (ext p N))) := by
  refine ⟨fun h cs s t ha hk hs => ?_, fun w h => ⟨?_, fun cs s t ha hk hs => ?_⟩⟩
  · obtain ⟨v, h1, _⟩ := avoid_ext hN ha hk
    have : v ∈ toW to (ext p N) := List.mem_map.2 ⟨(s, v), List.mem_filter.2 ⟨h1, by simp [hs]⟩, rfl⟩
    rw [minL_none.1 h] at this; cases this
  · obtain ⟨e, h1, h2⟩ := List.mem_map.1 (minL_some.1 h).1
    obtain ⟨h3, h4⟩ := List.mem_filter.1 h1
    have := ext_avoid hN h3
    rw [h2] at this
    exact ⟨e.1, by simpa using h4, this.1, this.2⟩
  · obtain ⟨v, h1, h2⟩ := avoid_ext hN ha hk
    have hm : v ∈ toW to (ext p N) := List.mem_map.2 ⟨(s, v), List.mem_filter.2 ⟨h1, by simp [hs]⟩, rfl⟩
    exact nlt_trans h2 ((minL_some.1 h).2 v hm)
/-- The best way after a round, as the reference finds it, is that of the package. -/
theorem NOk.best {p : Pln} (hg : Good p) {s0 : S2} (hs : OkS p s0) (hw : (stp p s0).wait = 0) {to : Int} {k : Nat} {N : List Ent} (hN : NOk p s0 to k N) : upB (bestW p s0 to (k + 1)) (minL (toW to (ext p N))) = bestW p s0 to (k + 2) :=
  round_same hg hs hw hN.here
end Go.Tr

/- Plain laws of chapter 7: the rounds of the reference's search, way by way. Conditions: none. -/
namespace Go.Tr
open Go Go.Proofs
set_option maxRecDepth 20000
set_option maxHeartbeats 8000000

theorem best_zero {p : Pln} (hg : Good p) {s0 : S2} (hs : OkS p s0) (hw : (stp p s0).wait = 0) {to : Int} (h : s0.1 = to) : ∀ n, bestW p s0 to (n + 1) = some ([], 0)
  | 0 => by
    show upB none (hereW p s0 to 0) = _
    have hm : (s0, (([], 0) : Way)) ∈ norm (layer p s0 0) := by
      rw [mem_norm]
      show minL (waysTo [(s0, (([], 0) : Way))] s0) = _
      have : waysTo [(s0, (([], 0) : Way))] s0 = [([], 0)] := by simp [waysTo]
      rw [this]; rfl
    obtain ⟨w, h1, h2⟩ := min_some (l := toW to (norm (layer p s0 0))) (v := ([], 0)) (List.mem_map.2 ⟨_, List.mem_filter.2 ⟨hm, by simp [h]⟩, rfl⟩)
    have h3 : hereW p s0 to 0 = some w := h1
    rw [h3]
    obtain ⟨e, h4, h5⟩ := List.mem_map.1 (minL_some.1 h1).1
    have h6 := norm_mem (List.mem_filter.1 h4).1
    rw [show e = (s0, ([], 0)) from List.mem_singleton.1 h6] at h5
    rw [← h5]; rfl
  | n + 1 => by
    show upB (bestW p s0 to (n + 1)) (hereW p s0 to (n + 1)) = _
    rw [best_zero hg hs hw h n]
    cases hh : hereW p s0 to (n + 1) with
    | none => rfl
    | some x =>
      obtain ⟨e, h4, h5⟩ := List.mem_map.1 (minL_some.1 hh).1
      have h6 := (layer_ok hg hs hw (n + 1) e (norm_mem (List.mem_filter.1 h4).1)).2.2.2.1
      rw [h5] at h6
      exact if_neg (by show ¬ x.2 < 0; omega)
theorem best_one {p : Pln} {s0 : S2} {to : Int} (h : s0.1 ≠ to) : bestW p s0 to 1 = none := by
  show upB none (hereW p s0 to 0) = _
  have : hereW p s0 to 0 = none := by
    unfold hereW
    rw [minL_none]
    unfold toW
    rw [List.map_eq_nil_iff, List.filter_eq_nil_iff]
    intro e he
    rw [show e = (s0, ([], 0)) from List.mem_singleton.1 (norm_mem he)]
    simp [h]
  rw [this]; rfl
/-- Within a round: the ways seen so far, those kept of them, and the best one. -/
structure Rnd (to : Int) (B : Option Way) (D N : List Ent) (C : Option Way) : Prop where
  kept : Kept N (D.filter fun e => decide (e.1.1 ≠ to))
  best : C = upB B (minL (toW to D))
theorem Rnd.start {to : Int} {B : Option Way} : Rnd to B [] [] B := ⟨Kept.nil, rfl⟩
theorem Rnd.off {to : Int} {B : Option Way} {D N : List Ent} {C : Option Way} (h : Rnd to B D N C) {x : Ent} (hx : ¬ x.1.1 = to) : Rnd to B (D ++ [x]) (keepL N x) C := by
  refine ⟨?_, ?_⟩
  · rw [List.filter_append]
    have : ([x].filter fun e => decide (e.1.1 ≠ to)) = [x] := by simp [hx]
    rw [this]
    exact h.kept.snoc x
  · rw [toW_snoc, if_neg hx, List.append_nil]; exact h.best
theorem Rnd.at {to : Int} {B : Option Way} {D N : List Ent} {C : Option Way} (h : Rnd to B D N C) {x : Ent} (hx : x.1.1 = to) {k : Nat} (hB : ∀ b, B = some b → b.1.length < k) (hD : ∀ d ∈ D, d.2.1.length = k) (hc : x.2.1.length = k) : Rnd to B (D ++ [x]) N (updB C x.2) := by
  refine ⟨?_, ?_⟩
  · rw [List.filter_append]
    have : ([x].filter fun e => decide (e.1.1 ≠ to)) = [] := by simp [hx]
    rw [this, List.append_nil]
    exact h.kept
  · rw [toW_snoc, if_pos hx, h.best]
    refine updB_up hB (fun d hd => ?_) hc
    obtain ⟨e, he, h2⟩ := List.mem_map.1 hd
    rw [← h2]
    exact hD e (List.mem_filter.1 he).1
theorem Rnd.mem {to : Int} {B : Option Way} {D N : List Ent} {C : Option Way} (h : Rnd to B D N C) {e : Ent} (he : e ∈ N) : e ∈ D := (List.mem_filter.1 (least_mem ((h.kept.mem e).1 he))).1
theorem Rnd.len {to : Int} {B : Option Way} {D N : List Ent} {C : Option Way} (h : Rnd to B D N C) {k : Nat} (hB : ∀ b, B = some b → b.1.length < k) (hD : ∀ d ∈ D, d.2.1.length = k) {c : Way} (hc : C = some c) : c.1.length ≤ k := by
  have h1 := h.best
  rw [hc] at h1
  cases hm : minL (toW to D) with
  | none => rw [hm] at h1; exact Nat.le_of_lt (hB c h1.symm)
  | some m =>
    rw [hm] at h1
    have hml : m.1.length = k := by
      obtain ⟨e, he, h2⟩ := List.mem_map.1 (minL_some.1 hm).1
      rw [← h2]
      exact hD e (List.mem_filter.1 he).1
    cases B with
    | none => have h1 : some c = some m := h1; cases h1; omega
    | some b =>
      have h1 : some c = if m.2 < b.2 then some m else some b := h1
      split at h1
      · cases h1; omega
      · cases h1; exact Nat.le_of_lt (hB c rfl)
end Go.Tr

/- The reference's fastest way: one command as a run; the ways kept, row by row. Conditions: none. -/
namespace Go.Tr
open Go Go.Proofs
set_option maxRecDepth 20000
set_option maxHeartbeats 8000000

abbrev ent0 : Ent := ((0, 0), ([], 0))
abbrev rowE (e : Ent) : List AV := [ints e.2.1, i64 e.1.1, i64 e.1.2, i64 e.2.2]
theorem getD_mem {α : Type} {l : List α} {i : Nat} (h : i < l.length) (d : α) : l.getD i d ∈ l := by
  rw [show l.getD i d = l[i] by simp [List.getD_eq_getElem?_getD, h]]
  exact List.getElem_mem h
theorem take_snoc {α : Type} {l : List α} {i : Nat} (h : i < l.length) (d : α) : l.take (i + 1) = l.take i ++ [l.getD i d] := by
  rw [List.take_add_one, show l.getD i d = l[i] by simp [List.getD_eq_getElem?_getD, h]]
  simp [h]
theorem open_of {p : Pln} {s s' : S2} {f : Int × Bool} (h : openE p s f = 0) (hs : OkS p s') : openE p s' f = 0 := by
  unfold openE at h ⊢
  split at h
  · rename_i h0
    rw [if_pos h0]
    rw [first2_iff] at h ⊢
    exact ⟨state_ok.2 hs, h.2⟩
  · rename_i h0; exact absurd h h0
/-- One command as a run. -/
def oneR (p : Pln) (s : S2) (c : Int) : Int × List S2 × Int := match commandF p noF s c with | none => (12, [], 0) | some r => (0, r.1, r.2)
theorem run_one {p : Pln} {s : S2} {c : Int} (h0 : openE p s noF = 0) (hw : (stp p s).wait = 0) (hc : hasI (stp p s).exits c = true) : runP p s noF [c] = oneR p s c := by
  unfold runP
  rw [if_neg (not_not_intro h0), if_neg (not_not_intro hw), if_neg (by simp)]
  unfold runG oneR
  rw [if_pos hc]
  cases commandF p noF s c with
  | none => rfl
  | some r => show (0, [] ++ r.1, 0 + r.2) = _; rw [List.nil_append, Int.zero_add]
theorem S52_1 (p : Pln) (hg : Good p) (s : S2) (c : Int) (h0 : openE p s noF = 0) (hs : OkS p s) (hw : (stp p s).wait = 0) (hc : hasI (stp p s).exits c = true) {f : Nat → List AV} (hf : f 0 = [i64 c]) : SP 52 [planA p, stA s, .agg [i64 (-1), vb false, .rslice 1 1 f]] (runT (oneR p s c)) false := by
  have h := S52 p hg s noF [c] h0 hs (open_ok hg.few h0).2.2 (by simp)
  rw [run_one h0 hw hc] at h
  refine h.argsD rfl fun i y x hy hx => ?_
  match i, hy, hx with
  | 0, hy, hx => cases hy; cases hx; exact .inl rfl
  | 1, hy, hx => cases hy; cases hx; exact .inl rfl
  | 2, hy, hx =>
    cases hy; cases hx
    refine .inr ⟨3, rfl, fun j x y hx hy => ?_⟩
    match j, hx, hy with
    | 0, hx, hy => cases hx; cases hy; exact .inl rfl
    | 1, hx, hy => cases hx; cases hy; exact .inl rfl
    | 2, hx, hy =>
      cases hx; cases hy
      refine .inr (AVF_rows rfl (fun i hi => ?_) 1)
      have hi : i < 1 := hi
      match i, hi with
      | 0, _ => exact hf
theorem S74n {n : Nat} {f : Nat → List AV} (l m : List Int) (hl : l.length ≤ 1000000) (hm : m.length ≤ 1000000) (hn : n = l.length) (hf : ∀ i, i < n → f i = [i64 (l.getD i 0)]) : SP 74 [.rslice 1 n f, ints m] (vb (decide (cmpL l m < 0))) false := by
  refine (S74 l m (by omega) (by omega)).argsD rfl fun i y x hy hx => ?_
  match i, hy, hx with
  | 0, hy, hx => cases hy; cases hx; exact .inr ⟨_, AVF_rows hn hf 2⟩
  | 1, hy, hx => cases hy; cases hx; exact .inl rfl
theorem S74m {n : Nat} {f : Nat → List AV} (l m : List Int) (hl : l.length ≤ 1000000) (hm : m.length ≤ 1000000) (hn : n = m.length) (hf : ∀ i, i < n → f i = [i64 (m.getD i 0)]) : SP 74 [ints l, .rslice 1 n f] (vb (decide (cmpL l m < 0))) false := by
  refine (S74 l m (by omega) (by omega)).argsD rfl fun i y x hy hx => ?_
  match i, hy, hx with
  | 0, hy, hx => cases hy; cases hx; exact .inl rfl
  | 1, hy, hx => cases hy; cases hx; exact .inr ⟨_, AVF_rows hn hf 2⟩
/-- What was met so far in a round is one command more than what was kept. -/
theorem cand_mem {p : Pln} {N D D2 : List Ent} {i j : Nat} (hi : i < N.length) (hD : D = ext p (N.take i)) (hD2 : D2 = D ++ ((stp p (N.getD i ent0).1).exits.take j).filterMap (stepWay p (N.getD i ent0))) : ∀ x ∈ D2, x ∈ ext p N := fun x hx => by
  rw [hD2, hD] at hx
  rcases List.mem_append.1 hx with hx | hx
  · obtain ⟨e, he, hx⟩ := List.mem_flatMap.1 hx
    exact List.mem_flatMap.2 ⟨e, List.mem_of_mem_take he, hx⟩
  · obtain ⟨c, hc, hx⟩ := List.mem_filterMap.1 hx
    exact List.mem_flatMap.2 ⟨_, getD_mem hi ent0, List.mem_filterMap.2 ⟨c, List.mem_of_mem_take hc, hx⟩⟩
theorem rnd_len {p : Pln} (hg : Good p) {k : Nat} {to : Int} {B C : Option Way} {D M : List Ent} (h : Rnd to B D M C) (hD : LOk p k D) : M.length ≤ 320 := by
  have := states_le hg _ h.kept.nodup (fun x hx => by obtain ⟨e, he, h2⟩ := List.mem_map.1 hx; rw [← h2]; exact (hD e (h.mem he)).1)
  have hA := allN_le hg
  rw [List.length_map] at this; omega
/-! ### The ways kept, as a row of them changes -/
theorem keepL_none : ∀ {N : List Ent} {x : Ent}, (∀ i, i < N.length → ¬ (N.getD i ent0).1 = x.1) → keepL N x = N ++ [x]
  | [], x, _ => rfl
  | y :: N, x, h => by
    have h0 : ¬ y.1 = x.1 := h 0 (by simp)
    unfold keepL
    rw [if_neg h0, keepL_none fun i hi => ?_]
    · rfl
    · have := h (i + 1) (by simpa using hi)
      simpa using this
theorem keepL_at : ∀ {N : List Ent} {x : Ent} {k : Nat}, k < N.length → (∀ i, i < k → ¬ (N.getD i ent0).1 = x.1) → (N.getD k ent0).1 = x.1 → keepL N x = if wlt x.2 (N.getD k ent0).2 then N.set k x else N
  | [], x, k, hk, _, _ => absurd hk (Nat.not_lt_zero _)
  | y :: N, x, 0, hk, _, he => by
    have he : y.1 = x.1 := he
    unfold keepL
    rw [if_pos he]; rfl
  | y :: N, x, k + 1, hk, h, he => by
    have h0 : ¬ y.1 = x.1 := h 0 (Nat.zero_lt_succ _)
    unfold keepL
    rw [if_neg h0, keepL_at (k := k) (by simpa using hk) (fun i hi => by have := h (i + 1) (by omega); simpa using this) (by simpa using he)]
    show y :: (if wlt x.2 (N.getD k ent0).2 then N.set k x else N) = if wlt x.2 (N.getD k ent0).2 then y :: N.set k x else y :: N
    split <;> rfl
theorem entrow {N : List Ent} {k i : Nat} (hk : k < N.length) {a b c d : AV} : (if i = k then [a, b, c, d] else rowE (N.getD i ent0)) = bif Nat.beq i (0 + k) then splice (rowE (N.getD i ent0)) 0 [a, b, c, d] else rowE (N.getD i ent0) := by
  rw [Nat.zero_add]
  cases e : Nat.beq i k with
  | true => rw [if_pos (Nat.eq_of_beq_eq_true e)]; rfl
  | false => rw [if_neg (Nat.ne_of_beq_eq_false e)]; rfl
/-- A way with one command more. -/
abbrev newE (e : Ent) (c : Int) (r : List S2 × Int) : Ent := (r.1.getD ((r.1.length : Int) - 1).toNat (0, 0), (e.2.1 ++ [c], e.2.2 + r.2))
theorem setrow {M : List Ent} {X : Ent} {q : Nat} (hq : q < M.length) (i : Nat) : rowE ((M.set q X).getD i ent0) = if i = q then rowE X else rowE (M.getD i ent0) := by
  by_cases h : i = q
  · subst h
    rw [if_pos rfl]
    simp [List.getD_eq_getElem?_getD, hq]
  · rw [if_neg h]
    have h2 : ¬ q = i := fun e => h e.symm
    simp [List.getD_eq_getElem?_getD, List.getElem?_set, h2]
theorem approw {M : List Ent} {X : Ent} {m : Nat} (hm : M.length = m) (i : Nat) (hi : i < m + 1) : rowE ((M ++ [X]).getD i ent0) = if i < m then rowE (M.getD (0 + i) ent0) else List.take 4 (List.drop ((i - m) * 4) (rowE X)) := by
  subst hm
  rw [Nat.zero_add]
  by_cases h : i < M.length
  · rw [if_pos h]
    simp [List.getD_eq_getElem?_getD, List.getElem?_append_left h]
  · rw [if_neg h]
    obtain rfl : i = M.length := by omega
    simp [List.getD_eq_getElem?_getD]
theorem updB_yes {C : Option Way} {w : Way} (h : C = none ∨ w.2 < (optA C).2 ∨ (w.2 = (optA C).2 ∧ w.1.length = (optA C).1.length ∧ cmpL w.1 (optA C).1 < 0)) : updB C w = some w := by
  cases C with
  | none => rfl
  | some c => exact if_pos (h.resolve_left nofun)
theorem updB_no {C : Option Way} {w : Way} (h0 : C.isSome = true) (h : ¬ (w.2 < (optA C).2 ∨ (w.2 = (optA C).2 ∧ w.1.length = (optA C).1.length ∧ cmpL w.1 (optA C).1 < 0))) : updB C w = C := by
  cases C with
  | none => cases h0
  | some c => exact if_neg h
/-- A row written as it stands in memory. -/
theorem row4 {l : List Int} {n : Nat} {f : Nat → List AV} {a b t : Int} (hn : n = l.length) (hf : ∀ i, i < n → f i = [i64 (l.getD i 0)]) : RowLe true [.rslice 1 n f, i64 a, i64 b, i64 t] (rowE ((a, b), (l, t))) := by
  refine ⟨rfl, rfl, fun j x y hx hy => ?_⟩
  match j, hx, hy with
  | 0, hx, hy => cases hx; cases hy; exact .inr ⟨rfl, hn, hf⟩
  | 1, hx, hy => cases hx; cases hy; exact .inl rfl
  | 2, hx, hy => cases hx; cases hy; exact .inl rfl
  | 3, hx, hy => cases hx; cases hy; exact .inl rfl
theorem row_zero4 (a b : Int) : RowLe true [.eslice, i64 a, i64 b, i64 0] (rowE ((a, b), ([], 0))) := by
  refine ⟨rfl, rfl, fun j x y hx hy => ?_⟩
  match j, hx, hy with
  | 0, hx, hy => cases hx; cases hy; exact .inr rfl
  | 1, hx, hy => cases hx; cases hy; exact .inl rfl
  | 2, hx, hy => cases hx; cases hy; exact .inl rfl
  | 3, hx, hy => cases hx; cases hy; exact .inl rfl
end Go.Tr

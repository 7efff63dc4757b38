/- From a body to the contract of its function. Conditions: regions that draw are taken as a premise here. -/
import Derived.Test.YtkomdfgffgkphaaTrW
namespace Go.Tr
open Go Go.RowKit

theorem run_enter {P : Program} {f : FuncId} {fn : Func} {c : Code} (hf : P.funcs[f]? = some fn) (hn : (fn.name == "runtime.NumGoroutine") = false) (hb : fn.body = some c) (as : Array Value) (w : World) : (callFunc f as).run P w = .ok (.enter f as) w := by
  unfold callFunc
  have hn' := beq_eq_false_iff_ne.1 hn
  simp [hf, hn', hb]

/-- What a call leaves. -/
def Gives (P : Program) (w : World) (q : Nat → Prop) (r : AV) (fr : Bool) (e : Ending) (w' : World) : Prop := ∃ u, e = .returned u ∧ Below w.heap.size w w' ∧
      match fr with
      | false => VT P w' (fun b => q b ∨ (w.heap.size ≤ b ∧ b < w'.heap.size)) r u
      | true => ∀ n, FreshAt P w.heap.size w' n r u

theorem start_rel {P : Program} {w : World} {c : Cx} {n : Nat} {args : List AV} {vs : Array Value} (hv : ArgsR P w c args vs) (t : Nat) : VR P w c (look (start args 0) t) ((vs ++ Array.replicate (n - vs.size) undef).getD t undef) := by
  rw [getElem?_start]
  by_cases ht : 0 ≤ t ∧ t < 0 + args.length
  · rw [if_pos ht]
    have hlt : t < args.length := by omega
    have hs := hv.1
    have hx := hv.2 t _ (List.getElem?_eq_getElem hlt)
    simp only [Array.getD_eq_getD_getElem?] at hx ⊢
    rw [Array.getElem?_append_left (by omega)]
    simpa [hlt] using hx
  · rw [if_neg ht]; exact .tree (.top _)

/-- A frame's marks are taken; then its results are read. -/
theorem leave_marks {P : Program} {F : Fr} {w0 : World} {q : Nat → Prop} {s : St} {c : Cx} {fn : Func} {R : Ending → World → Prop} : ∀ (ds : List Nat) (a : Act) (w : World), SR P F w0 q s a w c → a.defers = ds.map markOf → ds.Nodup →
    (∀ D ∈ ds, c.p D ∧ w0.heap.size ≤ D ∧ w.heap[D]? = some (.deferred (some [])) ∧ ∀ x ∈ F.G, x.1 ≠ D) →
    (∀ a' w', SR P F w0 q s a' w' c → a'.tmps = a.tmps → ∃ v, (results fn a'.tmps).run P w' = .ok v w' ∧ R (.returned v) w') → LeavesInM (FR none) 0 P fn a.tmps R (ds.map markOf) .returning w
  | [], a, w, h, hd, _, _, hR => by
    obtain ⟨v, g1, g2⟩ := hR a w h rfl
    exact ⟨v, g1, g2⟩
  | D :: ds, a, w, h, hd, hnd, hD, hR => by
    obtain ⟨p1, p2, p3, p4⟩ := hD D (.head _)
    have hnd' := List.nodup_cons.1 hnd
    refine ⟨by simp, .inl ⟨D, _, rfl, run_takeDeferred p3, ?_⟩⟩
    have t1 := putObj_cell (o' := .deferred none) p3 rfl
    have t2 : ∀ (r : Nat) es k, w.heap[r]? = some (.map es k) → (w.putObj D (.deferred none)).heap[r]? = some (.map es k) := fun r es k hr => putObj_block p3 hr (fun e => by cases e)
    have hturn := h.toHS.turn (o' := .deferred none) (G' := F.G) (rc' := F.rc) p3 rfl (fun es k e => by cases e) p2 (fun x hx => by
      obtain ⟨u1, u2, u3, u4⟩ := h.keep x hx
      exact ⟨u1, u2, (World.putObj_heap_other (p4 x hx)).trans u3, u4⟩) (fun i l rc hrc => by
      obtain ⟨u1, u2, u3, u4⟩ := h.rcd i l rc hrc
      exact ⟨u1, u2, u3, putObj_block p3 u4 (fun e => by cases e)⟩)
    have hrest : ∀ D' ∈ ds, c.p D' ∧ w0.heap.size ≤ D' ∧ (w.putObj D (.deferred none)).heap[D']? = some (.deferred (some [])) ∧ ∀ x ∈ F.G, x.1 ≠ D' := fun D' hD' => by
      obtain ⟨q1, q2, q3, q4⟩ := hD D' (.tail _ hD')
      exact ⟨q1, q2, (World.putObj_heap_other (fun e : D' = D => hnd'.1 (by rw [← e]; exact hD'))).trans q3, q4⟩
    have h' : SR P F w0 q s { a with defers := ds.map markOf } (w.putObj D (.deferred none)) c := ⟨hturn, fun t => (h.tm t).turn t1 t2, h.size, ds, rfl, hnd'.2, hrest⟩
    exact leave_marks ds { a with defers := ds.map markOf } _ h' rfl hnd'.2 hrest hR

theorem sr_start {P : Program} {n : Nat} {args : List AV} {w : World} {q : Nat → Prop} {vs : Array Value} (hlen : args.length ≤ n) (hq : ∀ b, q b → b < w.heap.size) (hs : vs.size = args.length) (hv : ∀ (i : Nat) x, args[i]? = some x → VT P w q x (vs.getD i undef)) :
    SR P ⟨n, fun _ => undef, none, [], none⟩ w q { tm := start args 0, hp := ⟨[], [], none, 0⟩ } { tmps := vs ++ Array.replicate (n - vs.size) undef, defers := [] } w ⟨q, fun _ => none, fun _ => none, fun _ => none⟩ := by
  refine ⟨⟨⟨fun b k oi hk => (by simp at hk), fun b b' oi oi' h => (by cases h), fun b oi h => (by cases h), hq, fun b m r hk => (by simp at hk), fun b r h => (by cases h), fun b b' r h => (by cases h), fun b i oi r h => (by cases h)⟩,
    ⟨fun b oi h => (by cases h), fun b r h => (by cases h)⟩, fun b oi h => (by cases h), fun b r h => (by cases h), fun b r h => (by cases h), Below.refl _ _, fun b hb => .inl hb, fun i => .tree (.top _), fun x hx => (by cases hx), fun i l rc h => (by cases h)⟩,
    fun t => start_rel ⟨hs, fun i x hi => .tree (hv i x hi)⟩ t, (by simp; omega), [], rfl, List.nodup_nil, fun D hD => by cases hD⟩

/-- The value that a frame hands back. -/
theorem result_val {P : Program} {F : Fr} {w0 w : World} {q : Nat → Prop} {s : St} {a : Act} {c : Cx} (h : SR P F w0 q s a w c) {fn : Func} {l : List AV} (hl : resAV (TP P) s fn.results.toList = some l) : ∃ u, (results fn a.tmps).run P w = .ok u w ∧ VR P w c (oneOf l) u := by
  obtain ⟨us, g1, g2, g3⟩ := results_ok (TOK_TP P) h fn.results.toList l hl
  refine ⟨_, run_results g1, ?_⟩
  by_cases h1 : us.length = 1
  · rw [if_pos h1]
    obtain ⟨u, rfl⟩ := List.length_eq_one_iff.1 h1
    obtain ⟨x, rfl⟩ := List.length_eq_one_iff.1 (g2.symm.trans h1)
    exact g3 0 x rfl
  · rw [if_neg h1]
    have : oneOf l = .tuple l := by
      have hne : l.length ≠ 1 := fun e => h1 (g2.trans e)
      cases l with
      | nil => rfl
      | cons x l => cases l with
        | nil => exact absurd rfl hne
        | cons y l => rfl
    rw [this]
    exact .tuple l us.toArray (by simpa using g2) fun i x hi => by simpa using g3 i x hi

theorem gives_of_post {P : Program} {F : Fr} {w w' : World} {q : Nat → Prop} {s' : St} {a' : Act} {c' : Cx} {fn : Func} {r : AV} {fr : Bool} {e : Ex} (h : SR P F w q s' a' w' c') (hq' : post (TP P) fn r fr e s') : bodyPostM (FR none) 0 P fn (Gives P w q r fr) (toExit e) a' w' := by
  have fin : Fin (TP P) fn r fr s' → ∀ a2 w2, SR P F w q s' a2 w2 c' → a2.tmps = a'.tmps → ∃ v, (results fn a2.tmps).run P w2 = .ok v w2 ∧ Gives P w q r fr (.returned v) w2 := by
    intro hfin a2 w2 h _
    unfold Fin at hfin
    split at hfin
    · exact hfin.elim
    rename_i l hl
    obtain ⟨u, g1, hx⟩ := result_val h hl
    refine ⟨u, g1, _, rfl, h.below, ?_⟩
    cases fr with
    | true =>
      intro n
      exact fresh_at h.hr hx (hfin.2 rfl).1 hfin.1 (hfin.2 rfl).2 n
    | false =>
      refine (AVE_ok 5 hfin.1 (freeze_ok h.hr 5 hx)).weaken fun b hb => ?_
      have hlt : b < w2.heap.size := by
        rcases hb with hb | ⟨i, _, oi, hO, hc, rfl⟩ | ⟨i, _, hN⟩
        · exact h.hr.st b hb
        · exact (h.hr.own i oi hO hc).2
        · exact (h.hr.mown i b hN).2
      have hor : q b ∨ w.heap.size ≤ b := by
        rcases hb with hb | ⟨i, _, oi, hO, hc, rfl⟩ | ⟨i, _, hN⟩
        · exact h.pq b hb
        · exact .inr (h.hr.own i oi hO hc).1
        · exact .inr (h.hr.mown i b hN).1
      exact hor.imp (fun g => g) fun g => ⟨g, hlt⟩
  obtain ⟨ds, d1, d2, d3⟩ := h.defers
  cases e with
  | normal => show LeavesInM _ _ _ _ _ _ a'.defers _ _; rw [d1]; exact leave_marks ds a' w' h d1 d2 d3 (fin hq')
  | ret => show LeavesInM _ _ _ _ _ _ a'.defers _ _; rw [d1]; exact leave_marks ds a' w' h d1 d2 d3 (fin hq')
  | exit id => exact hq'.elim

/-- Functions may be run in place. -/
theorem ind_ok {P : Program} (hD : DrawnOk P (TP P)) {S : FuncId → List AV → AV → Bool → Prop} (hS : ∀ f args r fr, S f args r fr → Sound1 P f args r fr) : ∀ d, IOk P (INd (TP P) (fun f => P.funcs[f]?) S d)
  | 0 => fun _ _ _ _ _ _ hf => hf.elim
  | d + 1 => by
    intro Y f args n s K hI X G rc w0 q w c vs hHS hargs hY
    unfold INd at hI
    split at hI
    · exact hI.elim
    rename_i fn hf
    split at hI
    · exact hI.elim
    rename_i cd hcd
    split at hI
    case h_2 => exact hI.elim
    rename_i hchk
    rw [Bool.and_eq_true] at hchk
    have hlen : args.length ≤ fn.ntmps := Nat.le_of_ble_eq_true hchk.2
    refine ⟨run_enter hf (by simpa using hchk.1) hcd, callsIn_of_wp_marks hf hcd trivial ?_⟩
    have hE : EnvOk P ⟨fn.ntmps, X, none, G, rc⟩ w0 q { S, I := INd (TP P) (fun f => P.funcs[f]?) S d, Y, rok := true, any := true } := ⟨hS, ind_ok hD hS d, .inr ⟨rfl, hY⟩, fun _ => rfl⟩
    have h0 : SR P ⟨fn.ntmps, X, none, G, rc⟩ w0 q { tm := start args 0, hp := s.hp, sv := pushSv n s.tm s.sv } { tmps := vs ++ Array.replicate (fn.ntmps - vs.size) undef, defers := [] } w c :=
      ⟨hHS, fun t => start_rel hargs t, (by have := hargs.1; simp; omega), [], rfl, List.nodup_nil, fun D hD => by cases hD⟩
    refine awp_ok (TOK_TP P) hD cd ⟨fn.ntmps, X, none, G, rc⟩ _ hE _ _ _ _ _ _ (fun e s' a' w' c' h hq' => ?_) h0 hI
    obtain ⟨ds, d1, d2, d3⟩ := h.defers
    have fin : (match resAV (TP P) s' fn.results.toList with
        | some l => K (oneOf l) { tm := popTm n s'.sv, hp := s'.hp, sv := popSv n s'.sv }
        | none => False) → bodyPostM (FR none) 0 P fn (fun e w' => ∃ u, e = .returned u ∧ ∃ r hp' sv' c', HS P X G rc w0 q hp' sv' w' c' ∧ VR P w' c' r u ∧ K r { tm := popTm n sv', hp := hp', sv := popSv n sv' }) .ret a' w' := fun hk => by
      show LeavesInM _ _ _ _ _ _ a'.defers _ _
      rw [d1]
      refine leave_marks ds a' w' h d1 d2 d3 fun a2 w2 h2 _ => ?_
      split at hk
      · rename_i l hl
        obtain ⟨u, g1, g2⟩ := result_val h2 hl
        exact ⟨u, g1, u, rfl, oneOf l, s'.hp, s'.sv, c', h2.toHS, g2, hk⟩
      · exact hk.elim
    cases e with
    | normal => exact fin hq'
    | ret => exact fin hq'
    | exit id => exact hq'.elim

/-- What the walk of a program's function leans on: contracts; functions in place, up to a depth. -/
def envOf (P : Program) (d : Nat) : Env := { S := Sound1 P, I := INd (TP P) (fun f => P.funcs[f]?) (Sound1 P) d, Y := noY, rok := true, any := true }

theorem envOf_ok {P : Program} (hD : DrawnOk P (TP P)) (d n : Nat) (w0 : World) (q : Nat → Prop) : EnvOk P ⟨n, fun _ => undef, none, [], none⟩ w0 q (envOf P d) :=
  ⟨fun _ _ _ _ h => h, ind_ok hD (fun _ _ _ _ h => h) d, .inl rfl, fun _ => rfl⟩

/-- A body that gives its result, gives the contract. -/
theorem sound_of_body {P : Program} {d : Nat} {f : FuncId} {fn : Func} {args : List AV} {r : AV} {fr : Bool} (hD : DrawnOk P (TP P)) (hf : P.funcs[f]? = some fn) (hn : (fn.name == "runtime.NumGoroutine") = false) (hlen : args.length ≤ fn.ntmps) (hb : Body (envOf P d) (TP P) fn args r fr) : Sound1 P f args r fr := by
  unfold Body at hb
  split at hb
  · exact hb.elim
  rename_i cd hcd
  exact ⟨run_enter hf hn hcd, fun w q vs hq hs hv => callsIn_wide.1 (callsIn_of_wp_marks (F := FR none) (n := 0) hf hcd trivial (awp_ok (TOK_TP P) hD cd ⟨fn.ntmps, fun _ => undef, none, [], none⟩ _ (envOf_ok hD d _ _ _) _ _ _ _ _ _ (fun e s' a' w' c' h hq' => gives_of_post h hq') (sr_start hlen hq hs hv) hb))⟩
end Go.Tr

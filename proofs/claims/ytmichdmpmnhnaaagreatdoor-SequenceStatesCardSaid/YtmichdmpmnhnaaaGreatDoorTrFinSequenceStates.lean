/- SequenceStates holds: the row, and its tied card. Conditions: the package's one variable, the library's six variables and one pinned table hold what the program's text lays (the card ties that). -/
import Derived.Test.YtmichdmpmnhnaaaGreatDoorRows
import Derived.Test.YtmichdmpmnhnaaaGreatDoorTie
import Derived.Test.YtmichdmpmnhnaaaGreatDoorCards
import Derived.Test.YtmichdmpmnhnaaaGreatDoorTr11
import Derived.SevenTiedAt
set_option linter.unusedSectionVars false
set_option linter.unnecessarySimpa false
set_option linter.unusedVariables false
set_option linter.unusedSimpArgs false

-- seat YtmichdmpmnhnaaaGreatDoor
namespace Go.Proofs.YtmichdmpmnhnaaaGreatDoor
open Go.ChangeShapes Go.WideShapes Go.ChangeAt Go.RowKit Go.Tr

theorem lifted_of {H : Type} {enc : TypeId × Value → H} {a : Assume} {C : Checked} {os : Os} {f : FuncId} {fn : Func} {s : ChangeSpec} {conds : List PathCond} {apart fresh handsOn again : Bool} {X : World → Array Value → Prop}
  (hX : ∀ (w w' : World) (args : Array Value),w.heap = w'.heap → X w args → X w' args)
  (own : ownKnob C.prog.godebug = none) (started : os.Started) (noInit : C.prog.inits.idxOf? f = none) (hfn : C.prog.funcs[f]? = some fn)
  (witness : ∃ (w : World) (tape : Tape) (i : Input),w.os = os ∧ (w.forCall tape i).Shaped C.prog ∧ i.vars = [] ∧ Input.okWide C.prog (w.forCall tape i) .any w.heap.size f i ∧
   ((s.pre enc C.prog fn conds apart (w.forCall tape i).memory i.args ∧ X (w.forCall tape i).memory i.args) ∧ sizedMet enc C.prog fn (OpenSpec.ofChange s) apart (w.forCall tape i).memory i.args) ∧ a.holds C.prog (lone (Frame.enter C.prog f i.args .normal) [] (w.forCall tape i)))
  (contract : ∀ (W : World) (base : Nat) (args : Array Value) (ds gs : List (DataW H)) (before : List MemPlace),
   (∀ (j : Nat) t v,fn.params[j]? = some t → args[j]? = some v → Value.okWide C.prog W .any base t v) →
   DataW.Whole enc C.prog fn.params.toList s.vars apart W args.toList ds gs before → X W args → W.ShapedOpen C.prog →
   Calls C.prog f args W fun e W'=>∃ v,e = .returned v ∧ s.post enc C.prog fn apart fresh handsOn again W args v W') :
  ReturnsInHanded a C os f .any (fun w args=>(s.pre enc C.prog fn conds apart w args ∧ X w args) ∧ sizedMet enc C.prog fn (OpenSpec.ofChange s) apart w args) (s.post enc C.prog fn apart fresh handsOn again) := by
 refine returnsInHanded_of_calls own started noInit witness fun w tape i _ hsh _ hok hpre _=>?_
 obtain ⟨_,_,_,fn2,h2,_,_,_,_,hval⟩ := hok
 obtain rfl : fn2 = fn := Option.some.inj (h2.symm.trans hfn)
 obtain ⟨⟨⟨ds,gs,before,hw,_⟩,hx⟩,_⟩ := hpre
 refine (contract (w.forCall tape i) w.heap.size i.args ds gs before hval (DataW.Whole.of_heap (w' := w.forCall tape i) (by rfl) hw) (hX _ _ _ (by rfl) hx) hsh).mono fun e W' ⟨v,he,hp⟩=>?_
 subst he
 exact ChangeSpec.post_blind hp

set_option maxRecDepth 100000 in
theorem sequenceStates_lifted (os : Os) (started : os.Started) (H : Type) (enc : TypeId × Value → H) :
  ReturnsInHanded {} Tryz.checked os 3 .any (fun w args=>(Rows.sequenceStatesSpec.pre enc Tryz.prog Tryz.f3 [] false w args ∧ laidMetH Tryz.prog laidL w) ∧ sizedMet enc Tryz.prog Tryz.f3 (OpenSpec.ofChange Rows.sequenceStatesSpec) false w args) (Rows.sequenceStatesSpec.post enc Tryz.prog Tryz.f3 false true false false) := by
 refine lifted_of (C := Tryz.checked) (X := fun w _=>laidMetH Tryz.prog laidL w) (fun _ _ _ hh h=>h.of_heap hh) Tryz.own started (by kernel_rfl) Tryz.func3
  (ChangeSpec.witness_shaped (enc := enc) (C := Tryz.checked) (os := os) (X := fun w _=>laidMetH Tryz.prog laidL w) false (World.laidAll Tryz.prog os laidL) #[.agg #[.int .i64 0,.int .i64 0],.string ByteArray.empty] 8 (World.laidAll_os _ _ _)
   (World.shaped_of_ZipB (by kernel_rfl) (by kernel_rfl)) (by kernel_rfl) (by kernel_rfl) (by kernel_rfl)
   (by rw [MakeChecks.laidMetH_plain _ _ _ (by kernel_rfl)]; exact laidMet_laidAll _ (by kernel_rfl) (by kernel_rfl))) ?_
 intro W base args ds gs before hval0 hW hL hsh
 have hval : ∀ (j : Nat) t v,Tryz.f3.params[j]? = some t → args[j]? = some v → Value.okWide Tryz.prog W .any base t v := hval0
 have hW' := hW
 obtain ⟨p,q,hA0,hV,rfl,hfz,hnd⟩ := hW
 have hA : DataW.TrodAll enc Tryz.prog W 0 (fun _=>true) true Tryz.f3.params.toList args.toList ds p := hA0
 rw [Tryz.params3] at hA hval
 obtain ⟨v0,v1,d0,d1,p0,p1,rfl,rfl,rfl,h0,h1⟩ := trodAll_two hA
 obtain ⟨rfl,rfl⟩ := trodVars_none hV
 obtain ⟨x0,g0,t0⟩ := open_av (m := 6) (q := fun b=>b < W.heap.size) (by kernel_rfl) (fun _ h=>h) (hval 0 23 v0 rfl rfl) h0
 obtain ⟨n0,a0,i0,k0⟩ := state_open t0
 have g0' := AVF_ok 6 a0 g0
 have hlt0 : ∀ x ∈ p0,x.block < W.heap.size := fun x hx=>hW'.lt x (by simp [hx])
 obtain ⟨n1,rfl,rfl,rfl,i1⟩ := Go.ChangeMaps.open_string Tryz.underlying9 (hval 1 9 v1 rfl rfl) h1
 have hcall := (S3 n0 n1 ⟨i0,k0⟩ (by unfold maxLen at i1; omega)).2 W (fun b=>b < W.heap.size) #[v0,.string n1] (fun _ h=>h) (gok_of hL hsh) rfl (fun i x hx=>by
  match i,hx with
  | 0,hx=>cases hx; exact g0'
  | 1,hx=>cases hx; exact .val _)
 refine Calls.mono hcall ?_
 rintro e W' ⟨u,rfl,hb,hu⟩
 cases hu
 refine ⟨_,rfl,post_of_below (pa := p0 ++ []) (pv := []) hW' (fun _ _ _=>trodAll_mk1 (shut_bool Tryz.underlying4 true)) (fun sp hsp=>?_) (fun _ _=>rfl) (by simp) hb (ok_one (by kernel_rfl) rfl (okWide_bool_mk Tryz.underlying4 true))⟩
 exact trodAll_mk2 (WideElems.Trod_stays Tryz.laidOut (by kernel_rfl) (of_decide_eq_true (by kernel_rfl)) h0 (fun x hx=>hb.same (hlt0 x hx)) (fun x hx=>hsp x (by simp [hx])))
  (Go.ChangeMaps.shut_string Tryz.underlying9 i1)

theorem sequenceStates_f1 : (Rows.sequenceStatesRow.inPlace == Tryz.pinned.checked.prog.inPlace 3) = true := by kernel_rfl
theorem sequenceStates_f2 : (Rows.sequenceStatesRow.unfollowed == Tryz.pinned.checked.prog.unfollowed 3) = true := by kernel_rfl
theorem sequenceStates_f3 : (Rows.sequenceStatesRow.recurses == Tryz.pinned.checked.prog.recurses 3) = true := by kernel_rfl
theorem sequenceStates_f4 : (Rows.sequenceStatesRow.named == Tryz.pinned.checked.prog.varsNamed 3) = true := by kernel_rfl
theorem sequenceStates_facts : joinedFacts Tryz.pinned.checked.prog 3 Tryz.f3 Rows.sequenceStatesSpec Rows.sequenceStatesRow = true := by
 unfold joinedFacts
 rw [sequenceStates_f1,sequenceStates_f2,sequenceStates_f3,sequenceStates_f4]
 kernel_rfl
theorem sequenceStates_holds : Rows.SequenceStatesSaid :=
 OpenClaim.holds_of_wide 3 Tryz.f3 rfl rfl rfl rfl rfl rfl rfl ⟨rfl,rfl,rfl,rfl,rfl⟩ rfl rfl rfl rfl rfl (by kernel_rfl) Tryz.func3 sequenceStates_facts
  (of_decide_eq_true (by kernel_rfl)) (by unfold Func.isWrapper; first | (rw [if_pos (by decide +kernel)]; kernel_rfl) | (rw [if_neg (by decide +kernel)]; exact ⟨rfl,rfl⟩))
  (fun os started H enc _=>sequenceStates_lifted os started H enc)
theorem sequenceStatesCard_holds : Rows.SequenceStatesCardSaid :=
 Claim7.holds_tied_plain_at .later [] [.data, .data, .data, .data, .sentinel, .sentinel, .data, .pinned] true (true, "5875273d82c69c9e1a7b0ce39f82933bf6ec9c135a4bb0d8c8e64f2b39f609e1") true
  sequenceStates_holds (fun _ h=>by cases h) (by kernel_rfl) (fun _ h=>by cases h) sequenceStates_row_tie rfl ⟨rfl,rfl⟩ (by kernel_rfl) rfl
  (fun f fn hf hfn=>by
   obtain rfl : f = 3 := Option.some.inj ((show Tryz.prog.funcNamed Rows.sequenceStatesRow.func = some 3 by kernel_rfl).symm.trans hf) |>.symm
   obtain rfl : fn = Tryz.f3 := (Option.some.inj (Tryz.func3.symm.trans hfn)).symm
   exact ⟨by kernel_rfl,fun j t ht=>by
    rw [Tryz.params3] at ht
    have hm : t ∈ [23,9] := by simpa using Array.mem_of_getElem? ht
    have hall : ([23,9].all fun u=>!Tryz.prog.wantsStandIn u) = true := by kernel_rfl
    exact (show Tryz.prog.wantsStandIn t = false by simpa using List.all_eq_true.1 hall t hm)⟩)
  (by kernel_rfl)
#print axioms sequenceStatesCard_holds
end Go.Proofs.YtmichdmpmnhnaaaGreatDoor

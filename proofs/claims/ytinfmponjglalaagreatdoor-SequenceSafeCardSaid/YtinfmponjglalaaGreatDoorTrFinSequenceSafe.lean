/- SequenceSafe holds: the row, and its tied card. Conditions: the package's one variable holds what the program's text lays (the card ties that). -/
import Derived.Test.YtinfmponjglalaaGreatDoorRows
import Derived.Test.YtinfmponjglalaaGreatDoorTie
import Derived.Test.YtinfmponjglalaaGreatDoorCards
import Derived.Test.YtinfmponjglalaaGreatDoorTr11
import Derived.Test.YtinfmponjglalaaGreatDoorTr12
set_option linter.unusedSectionVars false
set_option linter.unnecessarySimpa false
set_option linter.unusedVariables false
set_option linter.unusedSimpArgs false

-- seat YtinfmponjglalaaGreatDoor
namespace Go.Proofs.YtinfmponjglalaaGreatDoor
open Go.ChangeShapes Go.WideShapes Go.ChangeAt Go.RowKit Go.Tr

set_option maxRecDepth 100000 in
theorem sequenceSafe_lifted (os : Os) (started : os.Started) (H : Type) (enc : TypeId × Value → H) :
  ReturnsInHanded {} Tryz.checked os 5 .any (fun w args=>(Rows.sequenceSafeSpec.pre enc Tryz.prog Tryz.f5 [] false w args ∧ laidMetH Tryz.prog laidL w) ∧ sizedMet enc Tryz.prog Tryz.f5 (OpenSpec.ofChange Rows.sequenceSafeSpec) false w args) (Rows.sequenceSafeSpec.post enc Tryz.prog Tryz.f5 false true false false) := by
 refine returnsInHanded_of_change_and (C := Tryz.checked) (X := fun w _=>laidMetH Tryz.prog laidL w) (fun _ _ _ hh h=>h.of_heap hh) Tryz.own started (by kernel_rfl) Tryz.func5
  (ChangeSpec.witness_shaped (enc := enc) (C := Tryz.checked) (os := os) (X := fun w _=>laidMetH Tryz.prog laidL w) false (World.doorLaid Tryz.prog 400 os) #[.agg #[.slice none 0 0,.int .i64 0,.slice none 0 0]] 8 rfl (World.shaped_of_RefB (by kernel_rfl) (by kernel_rfl)) (by kernel_rfl) (by kernel_rfl) (by kernel_rfl) (door_met os _)) ?_
 intro W base args ds gs before hval0 hW _ _ hL _
 have hval : ∀ (j : Nat) t v,Tryz.f5.params[j]? = some t → args[j]? = some v → Value.okWide Tryz.prog W .any base t v := hval0
 have hW' := hW
 obtain ⟨p,q,hA0,hV,rfl,hfz,hnd⟩ := hW
 have hA : DataW.TrodAll enc Tryz.prog W 0 (fun _=>true) true Tryz.f5.params.toList args.toList ds p := hA0
 rw [Tryz.params5] at hA hval
 obtain ⟨v0,d0,rfl,rfl,h0⟩ := trodAll_one hA
 obtain ⟨rfl,rfl⟩ := trodVars_none hV
 obtain ⟨x0,g0,t0⟩ := open_av (m := 6) (q := fun b=>b < W.heap.size) (by kernel_rfl) (fun _ h=>h) (hval 0 25 v0 rfl rfl) h0
 obtain ⟨n0,a0,i0⟩ := plan_open t0
 have g0' := AVF_ok 6 a0 g0
 have hlt0 : ∀ x ∈ p,x.block < W.heap.size := fun x hx=>hW'.lt x (by simp [hx])
 have hcall := (S5 n0 ⟨i0.sig,i0.steps⟩).2 W (fun b=>b < W.heap.size) #[v0] (fun _ h=>h) (gok_of hL) rfl (fun i x hx=>by
  match i,hx with
  | 0,hx=>cases hx; exact g0')
 refine Calls.mono hcall ?_
 rintro e W' ⟨u,rfl,hb,hu⟩
 cases hu
 refine ⟨_,rfl,post_of_below (pa := p) (pv := []) hW' (fun _ _ _=>trodAll_mk1 (shut_bool Tryz.underlying4 true)) (fun sp hsp=>?_) (fun _ _=>rfl) (by simp) hb (ok_one (by kernel_rfl) rfl (okWide_bool_mk Tryz.underlying4 true))⟩
 exact trodAll_mk1 (WideElems.Trod_stays Tryz.laidOut (by kernel_rfl) (of_decide_eq_true (by kernel_rfl)) h0 (fun x hx=>hb.same (hlt0 x hx)) (fun x hx=>hsp x (by simp [hx])))

theorem sequenceSafe_holds : Rows.SequenceSafeSaid :=
 OpenClaim.holds_of_wide 5 Tryz.f5 rfl rfl rfl rfl rfl rfl rfl ⟨rfl,rfl,rfl,rfl,rfl⟩ rfl rfl rfl rfl rfl (by kernel_rfl) Tryz.func5 (by kernel_rfl)
  (of_decide_eq_true (by kernel_rfl)) (by unfold Func.isWrapper; first | (rw [if_pos (by decide +kernel)]; kernel_rfl) | (rw [if_neg (by decide +kernel)]; exact ⟨rfl,rfl⟩))
  (fun os started H enc _=>sequenceSafe_lifted os started H enc)
theorem sequenceSafeCard_holds : Rows.SequenceSafeCardSaid :=
 Claim7.holds_tied_plain_at .later [] [.data] true (true, "de44cf3e7db12b17d7288456417067dfd64e05b44fe056dfa61ef97c43d5d368") false
  sequenceSafe_holds (fun _ h=>by cases h) (by kernel_rfl) (fun _ h=>by cases h) sequenceSafe_row_tie rfl ⟨rfl,rfl⟩ (by kernel_rfl) rfl
  (fun f fn hf hfn=>by
   obtain rfl : f = 5 := Option.some.inj ((show Tryz.prog.funcNamed "guidevane/guidevanelaw07.SequenceSafe" = some 5 by kernel_rfl).symm.trans hf) |>.symm
   obtain rfl : fn = Tryz.f5 := (Option.some.inj (Tryz.func5.symm.trans hfn)).symm
   exact ⟨by kernel_rfl,fun j t ht=>by
    rw [Tryz.params5] at ht
    have hm : t ∈ [25] := by simpa using Array.mem_of_getElem? ht
    have hall : ([25].all fun u=>!Tryz.prog.wantsStandIn u) = true := by kernel_rfl
    exact (show Tryz.prog.wantsStandIn t = false by simpa using List.all_eq_true.1 hall t hm)⟩)
  (by kernel_rfl)
#print axioms sequenceSafeCard_holds
end Go.Proofs.YtinfmponjglalaaGreatDoor

/- SequenceReached holds: the row, and its tied card. Conditions: the package's one variable holds what the program's text lays (the card ties that). -/
import Derived.Test.YtinfmponjglalaaGreatDoorRows
import Derived.Test.YtinfmponjglalaaGreatDoorTie
import Derived.Test.YtinfmponjglalaaGreatDoorCards
import Derived.Test.YtinfmponjglalaaGreatDoorTr10
import Derived.Test.YtinfmponjglalaaGreatDoorTr12
set_option linter.unusedSectionVars false
set_option linter.unnecessarySimpa false
set_option linter.unusedVariables false
set_option linter.unusedSimpArgs false

-- seat YtinfmponjglalaaGreatDoor
namespace Go.Proofs.YtinfmponjglalaaGreatDoor
open Go.ChangeShapes Go.WideShapes Go.ChangeAt Go.RowKit Go.Tr

set_option maxRecDepth 100000 in
theorem sequenceReached_lifted (os : Os) (started : os.Started) (H : Type) (enc : TypeId × Value → H) :
  ReturnsInHanded {} Tryz.checked os 3 .any (fun w args=>(Rows.sequenceReachedSpec.pre enc Tryz.prog Tryz.f3 [] false w args ∧ laidMetH Tryz.prog laidL w) ∧ sizedMet enc Tryz.prog Tryz.f3 (OpenSpec.ofChange Rows.sequenceReachedSpec) false w args) (Rows.sequenceReachedSpec.post enc Tryz.prog Tryz.f3 false true false false) := by
 refine returnsInHanded_of_change_and (C := Tryz.checked) (X := fun w _=>laidMetH Tryz.prog laidL w) (fun _ _ _ hh h=>h.of_heap hh) Tryz.own started (by kernel_rfl) Tryz.func3
  (ChangeSpec.witness_shaped (enc := enc) (C := Tryz.checked) (os := os) (X := fun w _=>laidMetH Tryz.prog laidL w) false (World.doorLaid Tryz.prog 400 os) #[.agg #[.slice none 0 0,.int .i64 0,.slice none 0 0],.agg #[.int .i64 0,.bool false],.int .i64 0] 8 rfl (World.shaped_of_RefB (by kernel_rfl) (by kernel_rfl)) (by kernel_rfl) (by kernel_rfl) (by kernel_rfl) (door_met os _)) ?_
 intro W base args ds gs before hval0 hW _ _ hL _
 have hval : ∀ (j : Nat) t v,Tryz.f3.params[j]? = some t → args[j]? = some v → Value.okWide Tryz.prog W .any base t v := hval0
 have hW' := hW
 obtain ⟨p,q,hA0,hV,rfl,hfz,hnd⟩ := hW
 have hA : DataW.TrodAll enc Tryz.prog W 0 (fun _=>true) true Tryz.f3.params.toList args.toList ds p := hA0
 rw [Tryz.params3] at hA hval
 obtain ⟨v0,v1,v2,d0,d1,d2,p0,p1,p2,rfl,rfl,rfl,h0,h1,h2⟩ := trodAll_three hA
 obtain ⟨rfl,rfl⟩ := trodVars_none hV
 obtain ⟨x0,g0,t0⟩ := open_av (m := 6) (q := fun b=>b < W.heap.size) (by kernel_rfl) (fun _ h=>h) (hval 0 25 v0 rfl rfl) h0
 obtain ⟨n0,a0,i0⟩ := plan_open t0
 have g0' := AVF_ok 6 a0 g0
 have hlt0 : ∀ x ∈ p0,x.block < W.heap.size := fun x hx=>hW'.lt x (by simp [hx])
 obtain ⟨x1,g1,t1⟩ := open_av (m := 6) (q := fun b=>b < W.heap.size) (by kernel_rfl) (fun _ h=>h) (hval 1 27 v1 rfl rfl) h1
 obtain ⟨n1,a1,i1⟩ := fault_open t1
 have g1' := AVF_ok 6 a1 g1
 have hlt1 : ∀ x ∈ p1,x.block < W.heap.size := fun x hx=>hW'.lt x (by simp [hx])
 obtain ⟨n2,rfl,rfl,rfl,i2⟩ := open_int Tryz.underlying3 (hval 2 3 v2 rfl rfl) h2
 have hcall := (S3 n0 ⟨i0.sig,i0.steps⟩ n1 n2).2 W (fun b=>b < W.heap.size) #[v0,v1,.int .i64 n2] (fun _ h=>h) (gok_of hL) rfl (fun i x hx=>by
  match i,hx with
  | 0,hx=>cases hx; exact g0'
  | 1,hx=>cases hx; exact g1'
  | 2,hx=>cases hx; exact .val _)
 refine Calls.mono hcall ?_
 rintro e W' ⟨u,rfl,hb,hu⟩
 cases hu
 refine ⟨_,rfl,post_of_below (pa := p0 ++ (p1 ++ [])) (pv := []) hW' (fun _ _ _=>trodAll_mk1 (shut_bool Tryz.underlying4 true)) (fun sp hsp=>?_) (fun _ _=>rfl) (by simp) hb (ok_one (by kernel_rfl) rfl (okWide_bool_mk Tryz.underlying4 true))⟩
 exact trodAll_mk3 (WideElems.Trod_stays Tryz.laidOut (by kernel_rfl) (of_decide_eq_true (by kernel_rfl)) h0 (fun x hx=>hb.same (hlt0 x hx)) (fun x hx=>hsp x (by simp [hx])))
  (WideElems.Trod_stays Tryz.laidOut (by kernel_rfl) (of_decide_eq_true (by kernel_rfl)) h1 (fun x hx=>hb.same (hlt1 x hx)) (fun x hx=>hsp x (by simp [hx])))
  (shut_int Tryz.underlying3 i2)

theorem sequenceReached_holds : Rows.SequenceReachedSaid :=
 OpenClaim.holds_of_wide 3 Tryz.f3 rfl rfl rfl rfl rfl rfl rfl ⟨rfl,rfl,rfl,rfl,rfl⟩ rfl rfl rfl rfl rfl (by kernel_rfl) Tryz.func3 (by kernel_rfl)
  (of_decide_eq_true (by kernel_rfl)) (by unfold Func.isWrapper; first | (rw [if_pos (by decide +kernel)]; kernel_rfl) | (rw [if_neg (by decide +kernel)]; exact ⟨rfl,rfl⟩))
  (fun os started H enc _=>sequenceReached_lifted os started H enc)
theorem sequenceReachedCard_holds : Rows.SequenceReachedCardSaid :=
 Claim7.holds_tied_plain_at .later [] [.data] true (true, "de44cf3e7db12b17d7288456417067dfd64e05b44fe056dfa61ef97c43d5d368") false
  sequenceReached_holds (fun _ h=>by cases h) (by kernel_rfl) (fun _ h=>by cases h) sequenceReached_row_tie rfl ⟨rfl,rfl⟩ (by kernel_rfl) rfl
  (fun f fn hf hfn=>by
   obtain rfl : f = 3 := Option.some.inj ((show Tryz.prog.funcNamed "guidevane/guidevanelaw07.SequenceReached" = some 3 by kernel_rfl).symm.trans hf) |>.symm
   obtain rfl : fn = Tryz.f3 := (Option.some.inj (Tryz.func3.symm.trans hfn)).symm
   exact ⟨by kernel_rfl,fun j t ht=>by
    rw [Tryz.params3] at ht
    have hm : t ∈ [25,27,3] := by simpa using Array.mem_of_getElem? ht
    have hall : ([25,27,3].all fun u=>!Tryz.prog.wantsStandIn u) = true := by kernel_rfl
    exact (show Tryz.prog.wantsStandIn t = false by simpa using List.all_eq_true.1 hall t hm)⟩)
  (by kernel_rfl)
#print axioms sequenceReachedCard_holds
end Go.Proofs.YtinfmponjglalaaGreatDoor

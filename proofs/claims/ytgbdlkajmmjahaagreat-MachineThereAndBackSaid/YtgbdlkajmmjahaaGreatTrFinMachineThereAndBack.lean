/- MachineThereAndBack holds. Conditions: none. -/
import Derived.Test.YtgbdlkajmmjahaaGreatRows
import Derived.Test.YtgbdlkajmmjahaaGreatTr14
import Derived.Test.YtgbdlkajmmjahaaGreatTr15
set_option linter.unusedSectionVars false
set_option linter.unnecessarySimpa false
set_option linter.unusedVariables false
set_option linter.unusedSimpArgs false

-- seat YtgbdlkajmmjahaaGreat
namespace Go.Proofs.YtgbdlkajmmjahaaGreat
open Go.ChangeShapes Go.WideShapes Go.ChangeAt Go.RowKit Go.Tr

set_option maxRecDepth 100000 in
theorem machineThereAndBack_lifted (os : Os) (started : os.Started) (H : Type) (enc : TypeId × Value → H) :
  ReturnsInHanded {} Tryz.checked os 12 .any (Rows.machineThereAndBackSpec.pre6 enc Tryz.prog Tryz.f12 Rows.machineThereAndBackRow.domain false) (Rows.machineThereAndBackSpec.post enc Tryz.prog Tryz.f12 false true false false) := by
 refine returnsInHanded_of_change (C := Tryz.checked) Tryz.own started (by kernel_rfl) Tryz.func12
  (ChangeSpec.witness6 (enc := enc) (C := Tryz.checked) false ⟨#[],#[.agg #[.slice none 0 0],.agg #[.int .i64 0,.int .i64 0],.int .i64 0],[]⟩ 8 (by kernel_rfl) (by kernel_rfl) (by kernel_rfl) (by kernel_rfl)) ?_
 intro W base args ds gs before hval0 hW hcnd _
 have hval : ∀ (j : Nat) t v,Tryz.f12.params[j]? = some t → args[j]? = some v → Value.okWide Tryz.prog W .any base t v := hval0
 have hW' := hW
 obtain ⟨p,q,hA0,hV,rfl,hfz,hnd⟩ := hW
 have hA : DataW.TrodAll enc Tryz.prog W 0 (fun _=>true) true Tryz.f12.params.toList args.toList ds p := hA0
 rw [Tryz.params12] at hA hval
 obtain ⟨v0,v1,v2,d0,d1,d2,p0,p1,p2,rfl,rfl,rfl,h0,h1,h2⟩ := trodAll_three hA
 obtain ⟨rfl,rfl⟩ := trodVars_none hV
 obtain ⟨x0,g0,t0⟩ := open_av (m := 6) (q := fun b=>b < W.heap.size) (by kernel_rfl) (fun _ h=>h) (hval 0 24 v0 rfl rfl) h0
 obtain ⟨n0,a0,i0⟩ := tbl_open t0
 have g0' := AVF_ok 6 a0 g0
 have hlt0 : ∀ x ∈ p0,x.block < W.heap.size := fun x hx=>hW'.lt x (by simp [hx])
 obtain ⟨x1,g1,t1⟩ := open_av (m := 6) (q := fun b=>b < W.heap.size) (by kernel_rfl) (fun _ h=>h) (hval 1 26 v1 rfl rfl) h1
 obtain ⟨n1,a1,i1⟩ := frac_open t1
 have g1' := AVF_ok 6 a1 g1
 have hlt1 : ∀ x ∈ p1,x.block < W.heap.size := fun x hx=>hW'.lt x (by simp [hx])
 obtain ⟨n2,rfl,rfl,rfl,i2⟩ := open_int Tryz.underlying3 (hval 2 3 v2 rfl rfl) h2
 have hcall := (S12 n0 i0 n1 i1 n2).2 W (fun b=>b < W.heap.size) #[v0,v1,.int .i64 n2] (fun _ h=>h) gok_none rfl (fun i x hx=>by
  match i,hx with
  | 0,hx=>cases hx; exact g0'
  | 1,hx=>cases hx; exact g1'
  | 2,hx=>cases hx; exact .val _)
 refine Calls.mono hcall ?_
 rintro e W' ⟨u,rfl,hb,hu⟩
 cases hu
 refine ⟨_,rfl,post_of_below (pa := p0 ++ (p1 ++ [])) (pv := []) hW' (fun _ _ _=>trodAll_mk1 (shut_bool Tryz.underlying4 true)) (fun sp hsp=>?_) (fun _ _=>rfl) (by simp) hb (ok_one (by kernel_rfl) rfl (okWide_bool_mk Tryz.underlying4 true))⟩
 exact trodAll_mk3 (WideElems.Trod_stays Tryz.laidOut (by kernel_rfl) (of_decide_eq_true (by kernel_rfl)) h0 (fun x hx=>hb.same (hlt0 x hx)) (fun x hx=>hsp x (by simp [hx])))
  (WideElems.Trod_stays Tryz.laidOut (by kernel_rfl) (of_decide_eq_true (by kernel_rfl)) h1 (fun x hx=>hb.same (hlt1 x hx)) (fun x hx=>hsp x (by simp [hx])))
  (shut_int Tryz.underlying3 i2)

theorem machineThereAndBack_f1 : (Rows.machineThereAndBackRow.inPlace == Tryz.pinned.checked.prog.inPlace 12) = true := by kernel_rfl
theorem machineThereAndBack_f2 : (Rows.machineThereAndBackRow.unfollowed == Tryz.pinned.checked.prog.unfollowed 12) = true := by kernel_rfl
theorem machineThereAndBack_f3 : (Rows.machineThereAndBackRow.recurses == Tryz.pinned.checked.prog.recurses 12) = true := by kernel_rfl
theorem machineThereAndBack_f4 : (Rows.machineThereAndBackRow.named == Tryz.pinned.checked.prog.varsNamed 12) = true := by kernel_rfl
theorem machineThereAndBack_facts : joinedFacts Tryz.pinned.checked.prog 12 Tryz.f12 Rows.machineThereAndBackSpec Rows.machineThereAndBackRow = true := by
 unfold joinedFacts
 rw [machineThereAndBack_f1,machineThereAndBack_f2,machineThereAndBack_f3,machineThereAndBack_f4]
 kernel_rfl
theorem machineThereAndBack_holds : Rows.MachineThereAndBackSaid :=
 OpenClaim.holds_of_wide 12 Tryz.f12 rfl rfl rfl rfl rfl rfl rfl ⟨rfl,rfl,rfl,rfl,rfl⟩ rfl rfl rfl rfl rfl (by kernel_rfl) Tryz.func12 machineThereAndBack_facts
  (of_decide_eq_true (by kernel_rfl)) (by unfold Func.isWrapper; first | (rw [if_pos (by decide +kernel)]; kernel_rfl) | (rw [if_neg (by decide +kernel)]; exact ⟨rfl,rfl⟩))
  (fun os started H enc _=>machineThereAndBack_lifted os started H enc)
#print axioms machineThereAndBack_holds
end Go.Proofs.YtgbdlkajmmjahaaGreat
